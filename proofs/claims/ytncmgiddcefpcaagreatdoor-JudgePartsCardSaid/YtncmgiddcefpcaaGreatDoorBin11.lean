/- Texts joined: what the claim needs of them. No condition. -/
import Derived.Test.YtncmgiddcefpcaaGreatDoorBin10
import Derived.Test.YtncmgiddcefpcaaGreatDoorBin6
import Derived.Test.YtncmgiddcefpcaaGreatDoorBin7
import Derived.Test.YtncmgiddcefpcaaGreatDoorBin4
import Derived.Test.YtncmgiddcefpcaaGreatDoorProg
import Derived.Maps.RangeWalk
import Derived.Sort.OwnSorted
import Derived.WalkKit
import Derived.ProofKit
import Derived.OpenShut
import Derived.Maps.AppendAt
import Derived.Laws.Cover1
namespace Go.Proofs.YtncmgiddcefpcaaGreatDoor
open Go Go.Ev Go.Con
set_option linter.unusedSimpArgs false
set_option linter.unusedVariables false
set_option maxRecDepth 100000
theorem flat_len {α : Type} (f : α → List Value) {n : Nat} (hf : ∀ x, (f x).length = n) (l : List α) : ((l.map f).flatten).length = l.length * n := by
  induction l with
  | nil => simp
  | cons a l ih => rw [List.map_cons, List.flatten_cons, List.length_append, ih, hf, List.length_cons, Nat.add_mul]; omega
theorem flat_at {α : Type} (f : α → List Value) {n : Nat} (hf : ∀ x, (f x).length = n) : ∀ (l : List α) {i : Nat} {x : α}, l[i]? = some x → (((l.map f).flatten).drop (i * n)).take n = f x
  | [], i, x, h => by simp at h
  | a :: l, 0, x, h => by
    simp at h; subst h
    rw [Nat.zero_mul, List.drop_zero, List.map_cons, List.flatten_cons, ← hf a, List.take_left]
  | a :: l, i + 1, x, h => by
    have := flat_at f hf l (i := i) (by simpa using h)
    rw [List.map_cons, List.flatten_cons, show (i + 1) * n = n + i * n by rw [Nat.add_mul]; omega, ← List.drop_drop]
    have e : ((f a) ++ (l.map f).flatten).drop n = (l.map f).flatten := by rw [← hf a]; exact List.drop_left
    rw [e]; exact this
abbrev MkSl (h : Hp) (v : Value) (l : List Mk) : Prop := SlAt h 7 v ((l.map mkC).flatten)
theorem MkSl.len {h : Hp} {v : Value} {l : List Mk} (s : MkSl h v l) : evLen kon.P 68 v = some (.int .i64 l.length) := by
  have fl := flat_len mkC (n := 7) (fun _ => rfl) l
  rcases s with ⟨rfl, hl⟩ | ⟨b, o, k, c, all, rfl, h2, h3, h4, h5, h6⟩
  · rw [hl] at fl
    have : l = [] := List.length_eq_zero_iff.1 (by simp at fl; omega)
    subst this; exact evLen_slice (e := 60) (by kernel_rfl)
  · have : k = l.length := by omega
    subst this
    exact evLen_slice (e := 60) (by kernel_rfl)
theorem MkSl.at {h : Hp} {v : Value} {l : List Mk} (s : MkSl h v l) {i : Nat} {x : Mk} (hi : l[i]? = some x) : ∃ b o all, evIndexAddr kon.P 68 v (.int .i64 i) = some (.pointer (some ⟨b, o, none⟩)) ∧ rowOf h b = some all ∧
    decide (o + 7 ≤ all.length) = true ∧ (all.drop o).take 7 = [.int .i64 x.proc, .int .i64 x.kind, .int .i64 x.uid, .int .i64 x.off, .int .i64 x.at_, .int .i64 x.before, .int .i64 x.after] := by
  have fl := flat_len mkC (n := 7) (fun _ => rfl) l
  have hlt : i < l.length := (List.getElem?_eq_some_iff.1 hi).1
  rcases s with ⟨rfl, hl⟩ | ⟨b, o, k, c, all, rfl, h2, h3, h4, h5, h6⟩
  · rw [hl] at fl; simp at fl; omega
  · have hk : k = l.length := by omega
    subst hk
    have hz : o + l.length * 7 ≤ all.length := by
      have := congrArg List.length h6
      rw [List.length_take, List.length_drop, fl] at this; omega
    refine ⟨b, o + i * 7, all, ?_, h4, decide_eq_true (by omega), ?_⟩
    · have := L_indexAddr (C := kon) (t := 68) (e := 60) (n := 7) (by kernel_rfl) (by kernel_rfl) b o l.length c .i64 i (by omega) (by omega)
      simpa using this
    · have := flat_at mkC (n := 7) (fun _ => rfl) l hi
      rw [← h6, List.drop_take, List.take_take, List.drop_drop] at this
      rw [← show mkC x = [.int .i64 x.proc, .int .i64 x.kind, .int .i64 x.uid, .int .i64 x.off, .int .i64 x.at_, .int .i64 x.before, .int .i64 x.after] from rfl, ← this]
      congr 1; omega
def fineI (T : Hi) (us : List ByteArray) (ms : List Mk) : Int := match ms.findIdx? fun m => !jFine T us m with
  | some k => k
  | none => -1
section
variable {h : Hp} {F : Nat → Prop} {T : Hi} {bt : Nat} {us : List ByteArray} {vu : Value} {p1 p2 : Nat}
theorem jclos_spec (t : TreeAt h F T bt) (su : StrSl h vu us) (hu : us.length ≤ 1000000000) (hac : ∀ u b, T.byUID u = some b → b.acl.length ≤ 1000000000) (r1 : rowOf h p1 = some [ptrV bt]) (r2 : rowOf h p2 = some [vu]) (l1 : p1 < h.next) (l2 : p2 < h.next) (m : Mk) :
    Meets kon 61 [.agg #[.int .i64 m.proc, .int .i64 m.kind, .int .i64 m.uid, .int .i64 m.off, .int .i64 m.at_, .int .i64 m.before, .int .i64 m.after], .pointer (some ⟨p1, 0, none⟩), .pointer (some ⟨p2, 0, none⟩)] h fun v h' => v = .bool (!jFine T us m) ∧ Keep h h' := by
  have e1 : (p1 = h.next) = False := by simp; omega
  have e2 : (p2 = h.next) = False := by simp; omega
  unfold ptrV at r1
  refine Meets.mk rfl (by kernel_rfl) Tryz.func61 rfl (congrArg Array.toList Tryz.results61) ?_
  repeat' (first | simp only [evr, nextP_norm, evd, evq, beq_self_eq_true, cond_true, cond_false, reduceIte, Nat.reduceEqDiff, Nat.reduceAdd, Int.reduceBNe, Int.reduceBEq, Int.reduceLT, Int.reduceLE, Int.reduceEq, evh, evp, Nat.reduceLeDiff, Nat.reduceSub, Nat.reduceBEq, typs, r1, r2, e1, e2] | refine kCond2_by (fun hc => ?_) (fun hc => ?_) <;> try simp only [hc] | refine kPick_by (fun hc => ?_) (fun hc => ?_) <;> try simp only [hc] | refine kWant_by (fun hc => ?_) (fun hc => ?_) <;> try simp only [hc])
  have k0 := Keep.push h (.row (mkC m) 60 (.rw 0 []))
  refine callP_meets (jfine_spec (t.keeps k0) (SlAt.keep su k0) hu m (fun b => hac m.uid b)) ?_
  rintro _ h1 ⟨rfl, k1⟩
  repeat' (first | simp only [evr, nextP_norm, evd, evq, beq_self_eq_true, cond_true, cond_false, reduceIte, Nat.reduceEqDiff, Nat.reduceAdd, Int.reduceBNe, Int.reduceBEq, Int.reduceLT, Int.reduceLE, Int.reduceEq, evh, evp, Nat.reduceLeDiff, Nat.reduceSub, Nat.reduceBEq, typs] | refine kCond2_by (fun hc => ?_) (fun hc => ?_) <;> try simp only [hc] | refine kPick_by (fun hc => ?_) (fun hc => ?_) <;> try simp only [hc] | refine kWant_by (fun hc => ?_) (fun hc => ?_) <;> try simp only [hc])
  exact k0.trans k1
set_option maxHeartbeats 1000000 in
theorem index_spec (t : TreeAt h F T bt) (su : StrSl h vu us) (hu : us.length ≤ 1000000000) (hac : ∀ u b, T.byUID u = some b → b.acl.length ≤ 1000000000) (r1 : rowOf h p1 = some [ptrV bt]) (r2 : rowOf h p2 = some [vu]) (l1 : p1 < h.next) (l2 : p2 < h.next) {vm : Value} {ms : List Mk} (sm : MkSl h vm ms) (hm : ms.length ≤ 1000000000) :
    Meets kon 60 [vm, .func (.func 61) #[] #[.pointer (some ⟨p1, 0, none⟩), .pointer (some ⟨p2, 0, none⟩)]] h fun v h' => v = .int .i64 (fineI T us ms) ∧ Keep h h' := by
  have lm := MkSl.len sm
  refine Meets.mk rfl (by kernel_rfl) Tryz.func60 rfl (congrArg Array.toList Tryz.results60) ?_
  repeat' (first | simp only [evr, nextP_norm, evd, evq, beq_self_eq_true, cond_true, cond_false, reduceIte, Nat.reduceEqDiff, Nat.reduceAdd, Int.reduceBNe, Int.reduceBEq, Int.reduceLT, Int.reduceLE, Int.reduceEq, evh, evp, Nat.reduceLeDiff, Nat.reduceSub, Nat.reduceBEq, typs, lm] | refine kCond2_by (fun hc => ?_) (fun hc => ?_) <;> try simp only [hc] | refine kPick_by (fun hc => ?_) (fun hc => ?_) <;> try simp only [hc] | refine kWant_by (fun hc => ?_) (fun hc => ?_) <;> try simp only [hc])
  refine Wp_loop (fun k fr h' => ∃ i : Nat, k = ms.length - i ∧ i ≤ ms.length ∧ fr.get 0 = some vm ∧ fr.get 1 = some (.func (.func 61) #[] #[.pointer (some ⟨p1, 0, none⟩), .pointer (some ⟨p2, 0, none⟩)]) ∧ fr.get 7 = some (.int .i64 ms.length) ∧ fr.get 8 = some (.int .i64 i) ∧ Keep h h' ∧ ∀ x ∈ ms.take i, (!jFine T us x) = false) ms.length ⟨0, rfl, Nat.zero_le _, ?_, ?_, ?_, ?_, Keep.refl _, by simp⟩ ?_
  · repeat' (first | simp only [evr, nextP_norm, evd, evq, beq_self_eq_true, cond_true, cond_false, reduceIte, Nat.reduceEqDiff, Nat.reduceAdd, Int.reduceBNe, Int.reduceBEq, Int.reduceLT, Int.reduceLE, Int.reduceEq, evh, evp, Nat.reduceLeDiff, Nat.reduceSub, Nat.reduceBEq, typs] | refine kCond2_by (fun hc => ?_) (fun hc => ?_) <;> try simp only [hc] | refine kPick_by (fun hc => ?_) (fun hc => ?_) <;> try simp only [hc] | refine kWant_by (fun hc => ?_) (fun hc => ?_) <;> try simp only [hc])
  · repeat' (first | simp only [evr, nextP_norm, evd, evq, beq_self_eq_true, cond_true, cond_false, reduceIte, Nat.reduceEqDiff, Nat.reduceAdd, Int.reduceBNe, Int.reduceBEq, Int.reduceLT, Int.reduceLE, Int.reduceEq, evh, evp, Nat.reduceLeDiff, Nat.reduceSub, Nat.reduceBEq, typs] | refine kCond2_by (fun hc => ?_) (fun hc => ?_) <;> try simp only [hc] | refine kPick_by (fun hc => ?_) (fun hc => ?_) <;> try simp only [hc] | refine kWant_by (fun hc => ?_) (fun hc => ?_) <;> try simp only [hc])
  · repeat' (first | simp only [evr, nextP_norm, evd, evq, beq_self_eq_true, cond_true, cond_false, reduceIte, Nat.reduceEqDiff, Nat.reduceAdd, Int.reduceBNe, Int.reduceBEq, Int.reduceLT, Int.reduceLE, Int.reduceEq, evh, evp, Nat.reduceLeDiff, Nat.reduceSub, Nat.reduceBEq, typs] | refine kCond2_by (fun hc => ?_) (fun hc => ?_) <;> try simp only [hc] | refine kPick_by (fun hc => ?_) (fun hc => ?_) <;> try simp only [hc] | refine kWant_by (fun hc => ?_) (fun hc => ?_) <;> try simp only [hc])
  · repeat' (first | simp only [evr, nextP_norm, evd, evq, beq_self_eq_true, cond_true, cond_false, reduceIte, Nat.reduceEqDiff, Nat.reduceAdd, Int.reduceBNe, Int.reduceBEq, Int.reduceLT, Int.reduceLE, Int.reduceEq, evh, evp, Nat.reduceLeDiff, Nat.reduceSub, Nat.reduceBEq, typs] | refine kCond2_by (fun hc => ?_) (fun hc => ?_) <;> try simp only [hc] | refine kPick_by (fun hc => ?_) (fun hc => ?_) <;> try simp only [hc] | refine kWant_by (fun hc => ?_) (fun hc => ?_) <;> try simp only [hc])
    rfl
  rintro k fr H ⟨i, rfl, hi, g0, g1, g7, g8, K, hp⟩
  by_cases h3 : i < ms.length
  · have e3 : decide ((i : Int) < ms.length) = true := by simp; omega
    obtain ⟨b, o, all, hia, hr, d1, d2⟩ := MkSl.at (SlAt.keep sm K) (List.getElem?_eq_getElem h3)
    have w1 := wrap64 (x := (i : Int) + 1) (by omega) (by omega)
    have rr : ∀ {p : Nat}, p < h.next → rowOf H p = rowOf h p := fun hp => by unfold rowOf; rw [K.2 _ hp]
    repeat' (first | simp only [evr, nextP_norm, evd, evq, beq_self_eq_true, cond_true, cond_false, reduceIte, Nat.reduceEqDiff, Nat.reduceAdd, Int.reduceBNe, Int.reduceBEq, Int.reduceLT, Int.reduceLE, Int.reduceEq, evh, evp, Nat.reduceLeDiff, Nat.reduceSub, Nat.reduceBEq, typs, g0, g1, g7, g8, e3, hia, hr, d1, d2, P_callV, kFn_eq] | refine kCond2_by (fun hc => ?_) (fun hc => ?_) <;> try simp only [hc] | refine kPick_by (fun hc => ?_) (fun hc => ?_) <;> try simp only [hc] | refine kWant_by (fun hc => ?_) (fun hc => ?_) <;> try simp only [hc])
    refine callP_meets (jclos_spec (t.keeps K) (SlAt.keep su K) hu hac ((rr l1).trans r1) ((rr l2).trans r2) (Nat.lt_of_lt_of_le l1 K.1) (Nat.lt_of_lt_of_le l2 K.1) ms[i]) ?_
    rintro _ H1 ⟨rfl, k1⟩
    cases hj : !jFine T us ms[i] with
    | true =>
      repeat' (first | simp only [evr, nextP_norm, evd, evq, beq_self_eq_true, cond_true, cond_false, reduceIte, Nat.reduceEqDiff, Nat.reduceAdd, Int.reduceBNe, Int.reduceBEq, Int.reduceLT, Int.reduceLE, Int.reduceEq, evh, evp, Nat.reduceLeDiff, Nat.reduceSub, Nat.reduceBEq, typs] | refine kCond2_by (fun hc => ?_) (fun hc => ?_) <;> try simp only [hc] | refine kPick_by (fun hc => ?_) (fun hc => ?_) <;> try simp only [hc] | refine kWant_by (fun hc => ?_) (fun hc => ?_) <;> try simp only [hc])
      refine ⟨?_, K.trans k1⟩
      unfold fineI
      have : ms.findIdx? (fun m => !jFine T us m) = some i := by
        rw [List.findIdx?_eq_some_iff_getElem]
        refine ⟨h3, hj, fun j hj2 => ?_⟩
        have := hp ms[j] (List.mem_take_iff_getElem.2 ⟨j, by omega, rfl⟩)
        simpa using this
      rw [this]
    | false =>
      repeat' (first | simp only [evr, nextP_norm, evd, evq, beq_self_eq_true, cond_true, cond_false, reduceIte, Nat.reduceEqDiff, Nat.reduceAdd, Int.reduceBNe, Int.reduceBEq, Int.reduceLT, Int.reduceLE, Int.reduceEq, evh, evp, Nat.reduceLeDiff, Nat.reduceSub, Nat.reduceBEq, typs, w1, g0, g1, g7, g8] | refine kCond2_by (fun hc => ?_) (fun hc => ?_) <;> try simp only [hc] | refine kPick_by (fun hc => ?_) (fun hc => ?_) <;> try simp only [hc] | refine kWant_by (fun hc => ?_) (fun hc => ?_) <;> try simp only [hc])
      refine ⟨ms.length - (i + 1), by omega, i + 1, rfl, by omega, rfl, K.trans k1, fun x hx => ?_⟩
      rw [← List.take_append_getElem h3] at hx
      rcases List.mem_append.1 hx with hx | hx
      · exact hp x hx
      · simp only [List.mem_singleton] at hx; subst hx; exact hj
  · have e3 : decide ((i : Int) < ms.length) = false := by simp; omega
    have hi2 : i = ms.length := by omega
    subst hi2
    rw [List.take_length] at hp
    repeat' (first | simp only [evr, nextP_norm, evd, evq, beq_self_eq_true, cond_true, cond_false, reduceIte, Nat.reduceEqDiff, Nat.reduceAdd, Int.reduceBNe, Int.reduceBEq, Int.reduceLT, Int.reduceLE, Int.reduceEq, evh, evp, Nat.reduceLeDiff, Nat.reduceSub, Nat.reduceBEq, typs, g0, g1, g7, g8, e3] | refine kCond2_by (fun hc => ?_) (fun hc => ?_) <;> try simp only [hc] | refine kPick_by (fun hc => ?_) (fun hc => ?_) <;> try simp only [hc] | refine kWant_by (fun hc => ?_) (fun hc => ?_) <;> try simp only [hc])
    refine ⟨?_, K⟩
    unfold fineI
    have : ms.findIdx? (fun m => !jFine T us m) = none := by
      rw [List.findIdx?_eq_none_iff]; intro x hx; exact hp x hx
    rw [this]
theorem jFine_spec (t : TreeAt h F T bt) (su : StrSl h vu us) (hu : us.length ≤ 1000000000) (hac : ∀ u b, T.byUID u = some b → b.acl.length ≤ 1000000000) {vm : Value} {ms : List Mk} (sm : MkSl h vm ms) (hm : ms.length ≤ 1000000000) :
    Meets kon 29 [ptrV bt, vu, vm] h fun v h' => v = .tuple #[.int .i64 (fineI T us ms), .bool (fineI T us ms == -1)] ∧ Keep h h' := by
  have hsc : isCell vu = true := by rcases su with ⟨rfl, _⟩ | ⟨b, o, k, c, all, rfl, _⟩ <;> rfl
  have hcv : vu.cells = #[vu] := by rcases su with ⟨rfl, _⟩ | ⟨b, o, k, c, all, rfl, _⟩ <;> rfl
  have hbx : boxable vu = true := by rcases su with ⟨rfl, _⟩ | ⟨b, o, k, c, all, rfl, _⟩ <;> rfl
  have kb : ∀ (h : Hp) (Q : Value → Hp → Prop), kBox 46 h Q vu = Q (.pointer (some ⟨h.next, 0, none⟩)) (h.push (.row [vu] 46 (.rw 0 []))) := fun h Q => by rw [kBox_eq hbx, hcv]
  unfold ptrV
  refine Meets.mk rfl (by kernel_rfl) Tryz.func29 rfl (congrArg Array.toList Tryz.results29) ?_
  repeat' (first | simp only [evr, nextP_norm, evd, evq, beq_self_eq_true, cond_true, cond_false, reduceIte, Nat.reduceEqDiff, Nat.reduceAdd, Int.reduceBNe, Int.reduceBEq, Int.reduceLT, Int.reduceLE, Int.reduceEq, evh, evp, Nat.reduceLeDiff, Nat.reduceSub, Nat.reduceBEq, typs, kb, P_makeFunc] | refine kCond2_by (fun hc => ?_) (fun hc => ?_) <;> try simp only [hc] | refine kPick_by (fun hc => ?_) (fun hc => ?_) <;> try simp only [hc] | refine kWant_by (fun hc => ?_) (fun hc => ?_) <;> try simp only [hc])
  generalize hh : Hp.push _ _ = H
  have K : Keep h H := by rw [← hh]; exact (Keep.push _ _).pushed
  have n : H.next = h.next + 2 := by rw [← hh]; rfl
  have r1 : rowOf H h.next = some [ptrV bt] := by rw [← hh]; exact rowOf_rw ((Hp.get_push_lt (Nat.lt_succ_self _)).trans (Hp.get_push_self _ _))
  have r2 : rowOf H (h.next + 1) = some [vu] := by rw [← hh]; exact rowOf_rw (Hp.get_push_self (h.push _) _)
  clear hh
  have r1' := r1
  unfold ptrV at r1'
  repeat' (first | simp only [evr, nextP_norm, evd, evq, beq_self_eq_true, cond_true, cond_false, reduceIte, Nat.reduceEqDiff, Nat.reduceAdd, Int.reduceBNe, Int.reduceBEq, Int.reduceLT, Int.reduceLE, Int.reduceEq, evh, evp, Nat.reduceLeDiff, Nat.reduceSub, Nat.reduceBEq, typs, r1', P_makeFunc] | refine kCond2_by (fun hc => ?_) (fun hc => ?_) <;> try simp only [hc] | refine kPick_by (fun hc => ?_) (fun hc => ?_) <;> try simp only [hc] | refine kWant_by (fun hc => ?_) (fun hc => ?_) <;> try simp only [hc])
  refine callP_meets (index_spec (t.keeps K) (SlAt.keep su K) hu hac r1 r2 (by omega) (by omega) (SlAt.keep sm K) hm) ?_
  rintro _ H1 ⟨rfl, k1⟩
  repeat' (first | simp only [evr, nextP_norm, evd, evq, beq_self_eq_true, cond_true, cond_false, reduceIte, Nat.reduceEqDiff, Nat.reduceAdd, Int.reduceBNe, Int.reduceBEq, Int.reduceLT, Int.reduceLE, Int.reduceEq, evh, evp, Nat.reduceLeDiff, Nat.reduceSub, Nat.reduceBEq, typs] | refine kCond2_by (fun hc => ?_) (fun hc => ?_) <;> try simp only [hc] | refine kPick_by (fun hc => ?_) (fun hc => ?_) <;> try simp only [hc] | refine kWant_by (fun hc => ?_) (fun hc => ?_) <;> try simp only [hc])
  first | exact K.trans k1 | exact ⟨rfl, K.trans k1⟩
end
end Go.Proofs.YtncmgiddcefpcaaGreatDoor
namespace Go.Proofs.YtncmgiddcefpcaaGreatDoor
open Go Go.Ev Go.Con
set_option linter.unusedSimpArgs false
set_option linter.unusedVariables false
set_option maxRecDepth 100000
end Go.Proofs.YtncmgiddcefpcaaGreatDoor
namespace Go.Proofs.YtncmgiddcefpcaaGreatDoor
open Go Go.Ev Go.Con
set_option linter.unusedSimpArgs false
set_option linter.unusedVariables false
set_option maxRecDepth 100000
end Go.Proofs.YtncmgiddcefpcaaGreatDoor
namespace Go.Proofs.YtncmgiddcefpcaaGreatDoor
open Go Go.Ev Go.Con
set_option linter.unusedSimpArgs false
set_option linter.unusedVariables false
set_option maxRecDepth 100000
theorem RefAt.keep {h h' : Hp} {G : Nat → Prop} {R : Hi} {br : Nat} (r : RefAt h G R br) (hn : h.next ≤ h'.next) (hs : ∀ k, G k → h'.get k = h.get k) : RefAt h' G R br := by
  obtain ⟨c, vB, vL, vD, cs, hF, r, ok, ha⟩ := r
  exact ⟨c, vB, vL, vD, cs, hF, r.keep hn fun k hk => hs k ((hF k).2 hk), ok, ha⟩
theorem RefAt.lt {h : Hp} {G : Nat → Prop} {R : Hi} {br : Nat} (r : RefAt h G R br) {k : Nat} (hk : G k) : k < h.next := by
  obtain ⟨c, vB, vL, vD, cs, hF, r, _⟩ := r
  exact r.lt k ((hF k).1 hk)
theorem TreeAt.ltF' {h : Hp} {F : Nat → Prop} {T : Hi} {bt : Nat} (t : TreeAt h F T bt) {k : Nat} (hk : F k) : k < h.next := by obtain ⟨_, _, _, _, t⟩ := t; exact t.lt k hk
structure Two (h : Hp) (P F G : Nat → Prop) (T R : Hi) (bt br : Nat) : Prop where
  t : TreeAt h F T bt
  r : RefAt h G R br
  dj : ∀ k, F k → ¬ G k
  p : ∀ k, P k → ¬ F k ∧ ¬ G k ∧ k < h.next
section
variable {h h' : Hp} {P F F' G G' : Nat → Prop} {T T' R R' : Hi} {bt br : Nat}
theorem Two.keeps (x : Two h P F G T R bt br) (k : Keep h h') : Two h' P F G T R bt br :=
  ⟨x.t.keeps k, x.r.keep k.1 fun j hj => k.2 j (x.r.lt hj), x.dj, fun j hj => ⟨(x.p j hj).1, (x.p j hj).2.1, Nat.lt_of_lt_of_le (x.p j hj).2.2 k.1⟩⟩
theorem Two.tree (x : Two h P F G T R bt br) (u : Upd h F h' F') (t : TreeAt h' F' T' bt) : Two h' P F' G T' R bt br ∧ ∀ k, P k → h'.get k = h.get k := by
  refine ⟨⟨t, x.r.keep u.next fun k hk => u.same k (x.r.lt hk) fun hf => x.dj k hf hk, fun k hf hg => ?_, fun k hk => ⟨fun hf => ?_, (x.p k hk).2.1, Nat.lt_of_lt_of_le (x.p k hk).2.2 u.next⟩⟩, fun k hk => u.same k (x.p k hk).2.2 (x.p k hk).1⟩
  · rcases u.own k hf with h1 | h1
    · exact x.dj k h1 hg
    · have := x.r.lt hg; omega
  · rcases u.own k hf with h1 | h1
    · exact (x.p k hk).1 h1
    · have := (x.p k hk).2.2; omega
theorem Two.ref (x : Two h P F G T R bt br) (u : Upd h G h' G') (r : RefAt h' G' R' br) : Two h' P F G' T R' bt br ∧ ∀ k, P k → h'.get k = h.get k := by
  refine ⟨⟨x.t.keep u.next fun k hk => u.same k (x.t.ltF' hk) fun hg => x.dj k hk hg, r, fun k hf hg => ?_, fun k hk => ⟨(x.p k hk).1, fun hg => ?_, Nat.lt_of_lt_of_le (x.p k hk).2.2 u.next⟩⟩, fun k hk => u.same k (x.p k hk).2.2 (x.p k hk).2.1⟩
  · rcases u.own k hg with h1 | h1
    · exact x.dj k hf h1
    · have := x.t.ltF' hf; omega
  · rcases u.own k hg with h1 | h1
    · exact (x.p k hk).2.1 h1
    · have := (x.p k hk).2.2; omega
theorem Two.more (x : Two h P F G T R bt br) {b : Nat} (hb : b < h.next) (hF : ¬ F b) (hG : ¬ G b) : Two h (fun k => P k ∨ k = b) F G T R bt br :=
  ⟨x.t, x.r, x.dj, fun k hk => by
    rcases hk with hk | rfl
    · exact x.p k hk
    · exact ⟨hF, hG, hb⟩⟩
end
theorem Two.start {h0 h1 h2 : Hp} {F G : Nat → Prop} {T R : Hi} {bt br : Nat} (k1 : Keep h0 h1) (t : TreeAt h1 F T bt) (hF : ∀ k, F k → h0.next ≤ k) (k2 : Keep h1 h2) (r : RefAt h2 G R br) (hG : ∀ k, G k → h1.next ≤ k) : Two h2 (fun k => k < h0.next) F G T R bt br :=
  ⟨t.keeps k2, r, fun k hf hg => by have := t.ltF' hf; have := hG k hg; omega, fun k hk => ⟨fun hf => by have := hF k hf; omega, fun hg => by have := hG k hg; have := k1.1; omega, by have := k1.1; have := k2.1; omega⟩⟩
end Go.Proofs.YtncmgiddcefpcaaGreatDoor
namespace Go.Con
open Go
set_option linter.unusedSimpArgs false
set_option linter.unusedVariables false
def Hi.Kinds (T : Hi) : Prop := ∀ d n b, T.look d n = some b → b.kind = 1 ∨ b.kind = 2 ∨ b.kind = 3
end Go.Con
namespace Go.Con
open Go
set_option linter.unusedSimpArgs false
set_option linter.unusedVariables false
structure Dd where
  act : Int
  dir : Int
  name : ByteArray
  more : ByteArray
  b : Bn
namespace Hi
variable (T : Hi)
def step (d : Dd) : Hi :=
  if d.act ≤ 4 then (T.add d.dir d.name d.b).1 else if d.act = 5 then (T.name d.dir d.name d.more).1 else if d.act = 6 then (T.unname d.dir d.name).1
  else if d.act = 7 then (T.delete d.dir d.name).1 else if d.act = 8 then (T.access d.dir d.name d.b.acl).1 else (T.ringed d.dir d.name d.b.b).1
def steps (T : Hi) (l : List Dd) : Hi := l.foldl Hi.step T
def Kin : Prop := ∀ b ∈ T.B, b.kind = 1 ∨ b.kind = 2 ∨ b.kind = 3
def Few (n : Nat) : Prop := T.L.length ≤ n ∧ T.B.length ≤ n
theorem newHi_kin : newHi.Kin := by intro b hb; simp [newHi] at hb
theorem newHi_few : newHi.Few 0 := ⟨Nat.le_refl _, Nat.le_refl _⟩
variable {T}
theorem Few.mono {n m : Nat} (f : T.Few n) (h : n ≤ m) : T.Few m := ⟨Nat.le_trans f.1 h, Nat.le_trans f.2 h⟩
theorem Kin.setB (k : T.Kin) (i : Nat) (b : Bn) (h : b.kind = 1) : (T.setB i b).Kin := by
  intro x hx
  rcases List.mem_or_eq_of_mem_set hx with hx | rfl
  · exact k x hx
  · exact .inl h
theorem Kin.add (k : T.Kin) (d : Int) (n : ByteArray) (b : Bn) : (T.add d n b).1.Kin := by
  unfold Hi.add
  split
  · intro x hx
    unfold added at hx
    rcases List.mem_append.1 hx with hx | hx
    · exact k x hx
    · rw [List.mem_singleton.1 hx]
      unfold clean
      split
      · exact .inl rfl
      · split
        · exact .inr (.inl rfl)
        · exact .inr (.inr rfl)
  · exact k
theorem Few.add {m : Nat} (k : T.Few m) (d : Int) (n : ByteArray) (b : Bn) : (T.add d n b).1.Few (m + 1) := by
  unfold Hi.add
  split
  · exact ⟨by simp [added]; exact k.1, by simp [added]; exact k.2⟩
  · exact k.mono (Nat.le_succ _)
theorem Kin.step {T : Hi} (k : T.Kin) (d : Dd) : (T.step d).Kin := by
  unfold Hi.step
  split
  · exact k.add _ _ _
  split
  · unfold Hi.name named; split
    · exact k
    · split
      · exact k
      · split <;> exact k
  split
  · unfold Hi.unname taken; split
    · exact k
    · split <;> exact k
  split
  · unfold Hi.delete gone; split
    · exact k
    · split <;> exact k
  split
  · unfold Hi.access; split
    · exact k
    · split
      · exact k
      · rename_i h
        split
        · exact k
        · exact k.setB _ _ (by simpa using h)
  · unfold Hi.ringed; split
    · exact k
    · split
      · exact k
      · rename_i h
        split
        · exact k
        · exact k.setB _ _ (by simpa using h)
theorem Few.step {m : Nat} (k : T.Few m) (d : Dd) : (T.step d).Few (m + 1) := by
  have k' := k.mono (Nat.le_succ m)
  unfold Hi.step
  split
  · exact k.add _ _ _
  split
  · unfold Hi.name named; split
    · exact k'
    · split
      · exact k'
      · split
        · exact k'
        · exact ⟨by simp; exact k.1, k'.2⟩
  split
  · unfold Hi.unname taken; split
    · exact k'
    · split
      · exact k'
      · exact ⟨Nat.le_trans (List.length_filter_le _ _) k'.1, k'.2⟩
  split
  · unfold Hi.delete gone; split
    · exact k'
    · split
      · exact k'
      · exact ⟨Nat.le_trans (List.length_filter_le _ _) k'.1, k'.2⟩
  split
  · unfold Hi.access setB; split
    · exact k'
    · split
      · exact k'
      · split
        · exact k'
        · exact ⟨k'.1, by simp; exact k'.2⟩
  · unfold Hi.ringed setB; split
    · exact k'
    · split
      · exact k'
      · split
        · exact k'
        · exact ⟨k'.1, by simp; exact k'.2⟩
theorem steps_app (T : Hi) (l : List Dd) (d : Dd) : T.steps (l ++ [d]) = (T.steps l).step d := by
  unfold steps; rw [List.foldl_append]; rfl
theorem Kin.kinds (k : T.Kin) (ok : T.Ok) : T.Kinds := by
  intro d n b h
  unfold Hi.look at h
  obtain ⟨i, h1, rfl⟩ := Option.map_eq_some_iff.1 h
  have hi := ok.get_lt h1
  exact k _ (by rw [br_lt hi]; exact List.getElem_mem hi)
end Hi
end Go.Con
namespace Go.Proofs.YtncmgiddcefpcaaGreatDoor
open Go Go.Ev Go.Con
set_option linter.unusedSimpArgs false
set_option linter.unusedVariables false
set_option maxRecDepth 100000
def ddC (d : Dd) (sl : Value) : List Value := [.int .i64 d.act, .int .i64 d.dir, .string d.name, .string d.more] ++ bnC d.b sl
theorem TmTy.slAt' {h : Hp} {F : Nat → Prop} {v : Value} {l : List Tm} (s : TmTy h F v l) : TmSl h v l := SlTy.slAt s
def DoP (h : Hp) (P : Nat → Prop) (T : Hi) (bt br : Nat) (v : Value) (h' : Hp) : Prop := v = .bool true ∧ ∃ F' G', Two h' P F' G' T T bt br ∧ h.next ≤ h'.next ∧ ∀ k, P k → h'.get k = h.get k
set_option maxHeartbeats 4000000 in
theorem do_spec {h : Hp} {P F G : Nat → Prop} {T : Hi} {bt br : Nat} (x : Two h P F G T T bt br) (few : T.Few 1000) (d : Dd) {sl : Value} (hs : ∀ h', h.next ≤ h'.next → (∀ k, P k → h'.get k = h.get k) → TmSl h' sl d.b.acl) (hl : d.b.acl.length ≤ 1000000000) :
    Meets kon 15 [ptrV bt, ptrV br, .agg (ddC d sl).toArray] h (DoP h P (T.step d) bt br) := by
  obtain ⟨c1, c2⟩ := TmSl.cell (hs h (Nat.le_refl _) fun _ _ => rfl)
  have hL := few.1
  have hB := few.2
  unfold ddC bnC ptrV
  refine Meets.mk rfl (by kernel_rfl) Tryz.func15 rfl (congrArg Array.toList Tryz.results15) ?_
  simp only [evr, evd, evq, beq_self_eq_true, cond_true, cond_false, reduceIte, Nat.reduceEqDiff, Nat.reduceAdd, Int.reduceBNe, Int.reduceBEq, Int.reduceLT, Int.reduceLE, Int.reduceEq, evh, evp, Nat.reduceLeDiff, Nat.reduceSub, Nat.reduceBEq, typs, c1, c2]
  rw [nextP_norm]
  generalize hh : Hp.push _ _ = H
  have kH : Keep h H := by rw [← hh]; exact Keep.push _ _
  have nH : H.next = h.next + 1 := by rw [← hh]; rfl
  have gd : H.get h.next = some (.row (ddC d sl) 36 (.rw 0 [])) := by rw [← hh]; exact Hp.get_push_self _ _
  clear hh
  have qd := rowOf_rw gd
  have Q : ∀ {h'}, h'.get h.next = H.get h.next → rowOf h' h.next = rowOf H h.next := fun e => (rowOf_rw (e.trans gd)).trans (rowOf_rw gd).symm
  unfold ddC bnC at qd
  have x0 : Two H (fun k => P k ∨ k = h.next) F G T T bt br := (x.keeps kH).more (by omega) (fun hf => by have := x.t.ltF' hf; omega) (fun hg => by have := x.r.lt hg; omega)
  refine Wp_cut (fun fr => fr.get 0 = some (.pointer (some ⟨bt, 0, none⟩)) ∧ fr.get 1 = some (.pointer (some ⟨br, 0, none⟩)) ∧ fr.get 5 = some (.pointer (some ⟨h.next, 0, none⟩)) ∧ fr.get 6 = some (.bool false)) ?_ ?_
  · simp only [evr, nextP_norm, evd, evq, beq_self_eq_true, cond_true, cond_false, reduceIte, Nat.reduceEqDiff, Nat.reduceAdd, Int.reduceBNe, Int.reduceBEq, Int.reduceLT, Int.reduceLE, Int.reduceEq, typs]
  rintro fr ⟨g0, g1, g5, g6⟩
  have sl0 : ∀ {h'}, H.next ≤ h'.next → (∀ k, P k ∨ k = h.next → h'.get k = H.get k) → TmSl h' sl d.b.acl := fun {h'} hn he => hs h' (by omega) fun k hk => (he k (.inl hk)).trans (kH.2 k (x.p k hk).2.2)
  -- the end, from both trees
  have fin : ∀ {h' : Hp} {F' G' : Nat → Prop}, Two h' (fun k => P k ∨ k = h.next) F' G' (T.step d) (T.step d) bt br → H.next ≤ h'.next → (∀ k, P k ∨ k = h.next → h'.get k = H.get k) → DoP h P (T.step d) bt br (.bool true) h' := fun {h' F' G'} y hn hs =>
    ⟨rfl, F', G', ⟨y.t, y.r, y.dj, fun k hk => y.p k (.inl hk)⟩, by omega, fun k hk => (hs k (.inl hk)).trans (kH.2 k (x.p k hk).2.2)⟩
  by_cases e1 : d.act ≤ 4
  · have f1 : decide (d.act ≤ 4) = true := decide_eq_true e1
    have st : T.step d = (T.add d.dir d.name d.b).1 := by unfold Hi.step; rw [if_pos e1]
    rw [st] at fin ⊢
    repeat' (first | simp only [evr, nextP_norm, evd, evq, beq_self_eq_true, cond_true, cond_false, reduceIte, Nat.reduceEqDiff, Nat.reduceAdd, Int.reduceBNe, Int.reduceBEq, Int.reduceLT, Int.reduceLE, Int.reduceEq, evh, evp, Nat.reduceLeDiff, Nat.reduceSub, Nat.reduceBEq, typs, g0, g1, g5, g6, qd, f1] | refine kCond2_by (fun hc => ?_) (fun hc => ?_) <;> try simp only [hc] | refine kPick_by (fun hc => ?_) (fun hc => ?_) <;> try simp only [hc] | refine kWant_by (fun hc => ?_) (fun hc => ?_) <;> try simp only [hc])
    refine Wp_drawE [0, 0, 1, 0, 1, 0, 1, 3, 4, 0, 0, 0, 0, 0] (KR.mk (by kernel_rfl)) ?_
    repeat' (first | simp only [evr, nextP_norm, evd, evq, beq_self_eq_true, cond_true, cond_false, reduceIte, Nat.reduceEqDiff, Nat.reduceAdd, Int.reduceBNe, Int.reduceBEq, Int.reduceLT, Int.reduceLE, Int.reduceEq, evh, evp, Nat.reduceLeDiff, Nat.reduceSub, Nat.reduceBEq, typs, g0, g1, g5, g6, qd] | refine kCond2_by (fun hc => ?_) (fun hc => ?_) <;> try simp only [hc] | refine kPick_by (fun hc => ?_) (fun hc => ?_) <;> try simp only [hc] | refine kWant_by (fun hc => ?_) (fun hc => ?_) <;> try simp only [hc])
    have := made_spec (h := H) (x := d.b) (sl0 (Nat.le_refl _) fun _ _ => rfl)
    unfold bnC at this
    refine callP_meets this ?_
    rintro _ h1 ⟨rfl, k1⟩
    have x1 := x0.keeps k1
    have q1 := (Q (k1.2 _ (by omega))).trans qd
    repeat' (first | simp only [evr, nextP_norm, evd, evq, beq_self_eq_true, cond_true, cond_false, reduceIte, Nat.reduceEqDiff, Nat.reduceAdd, Int.reduceBNe, Int.reduceBEq, Int.reduceLT, Int.reduceLE, Int.reduceEq, evh, evp, Nat.reduceLeDiff, Nat.reduceSub, Nat.reduceBEq, typs, g0, g1, g5, g6, qd, q1] | refine kCond2_by (fun hc => ?_) (fun hc => ?_) <;> try simp only [hc] | refine kPick_by (fun hc => ?_) (fun hc => ?_) <;> try simp only [hc] | refine kWant_by (fun hc => ?_) (fun hc => ?_) <;> try simp only [hc])
    have := tAdd_spec x1.t (Nat.le_trans hL (by decide)) (Nat.le_trans hB (by decide)) (sl0 k1.1 fun k hk => k1.2 k (x0.p k hk).2.2) hl d.dir d.name
    unfold ptrV bnC at this
    refine callP_meets this ?_
    rintro _ h2 ⟨rfl, F2, t2, u2⟩
    obtain ⟨x2, o2⟩ := x1.tree u2 t2
    have n2 := u2.next
    have n1 := k1.1
    have q2 := (Q ((o2 _ (.inr rfl)).trans (k1.2 _ (by omega)))).trans qd
    have O2 : ∀ k, P k ∨ k = h.next → h2.get k = H.get k := fun k hk => (o2 k hk).trans (k1.2 k (x0.p k hk).2.2)
    repeat' (first | simp only [evr, nextP_norm, evd, evq, beq_self_eq_true, cond_true, cond_false, reduceIte, Nat.reduceEqDiff, Nat.reduceAdd, Int.reduceBNe, Int.reduceBEq, Int.reduceLT, Int.reduceLE, Int.reduceEq, evh, evp, Nat.reduceLeDiff, Nat.reduceSub, Nat.reduceBEq, typs, g0, g1, g5, g6, q2, qd] | refine kCond2_by (fun hc => ?_) (fun hc => ?_) <;> try simp only [hc] | refine kPick_by (fun hc => ?_) (fun hc => ?_) <;> try simp only [hc] | refine kWant_by (fun hc => ?_) (fun hc => ?_) <;> try simp only [hc])
    have := rAdd_spec x2.r (Nat.le_trans hL (by decide)) (Nat.le_trans hB (by decide)) (sl0 (by omega) O2) hl d.dir d.name
    unfold ptrV bnC at this
    refine callP_meets this ?_
    rintro _ h3 ⟨rfl, G3, r3, u3⟩
    obtain ⟨x3, o3⟩ := x2.ref u3 r3
    have n3 := u3.next
    repeat' (first | simp only [evr, nextP_norm, evd, evq, beq_self_eq_true, cond_true, cond_false, reduceIte, Nat.reduceEqDiff, Nat.reduceAdd, Int.reduceBNe, Int.reduceBEq, Int.reduceLT, Int.reduceLE, Int.reduceEq, evh, evp, Nat.reduceLeDiff, Nat.reduceSub, Nat.reduceBEq, typs, g0, g1, g5, g6, q2, qd] | refine kCond2_by (fun hc => ?_) (fun hc => ?_) <;> try simp only [hc] | refine kPick_by (fun hc => ?_) (fun hc => ?_) <;> try simp only [hc] | refine kWant_by (fun hc => ?_) (fun hc => ?_) <;> try simp only [hc])
    exact fin x3 (by omega) fun k hk => (o3 k hk).trans (O2 k hk)
  have f1 : decide (d.act ≤ 4) = false := decide_eq_false e1
  by_cases e5 : d.act = 5
  · have f5 : (d.act == 5) = true := by simp [e5]
    have st : T.step d = (T.name d.dir d.name d.more).1 := by unfold Hi.step; rw [if_neg e1, if_pos e5]
    rw [st] at fin ⊢
    repeat' (first | simp only [evr, nextP_norm, evd, evq, beq_self_eq_true, cond_true, cond_false, reduceIte, Nat.reduceEqDiff, Nat.reduceAdd, Int.reduceBNe, Int.reduceBEq, Int.reduceLT, Int.reduceLE, Int.reduceEq, evh, evp, Nat.reduceLeDiff, Nat.reduceSub, Nat.reduceBEq, typs, g0, g1, g5, g6, qd, f1, f5] | refine kCond2_by (fun hc => ?_) (fun hc => ?_) <;> try simp only [hc] | refine kPick_by (fun hc => ?_) (fun hc => ?_) <;> try simp only [hc] | refine kWant_by (fun hc => ?_) (fun hc => ?_) <;> try simp only [hc])
    refine Wp_drawE [0, 0, 1, 0, 1, 0, 1, 3, 0, 0, 1, 0, 1, 0, 1, 4, 0, 0] (KR.mk (by kernel_rfl)) ?_
    repeat' (first | simp only [evr, nextP_norm, evd, evq, beq_self_eq_true, cond_true, cond_false, reduceIte, Nat.reduceEqDiff, Nat.reduceAdd, Int.reduceBNe, Int.reduceBEq, Int.reduceLT, Int.reduceLE, Int.reduceEq, evh, evp, Nat.reduceLeDiff, Nat.reduceSub, Nat.reduceBEq, typs, g0, g1, g5, g6, qd] | refine kCond2_by (fun hc => ?_) (fun hc => ?_) <;> try simp only [hc] | refine kPick_by (fun hc => ?_) (fun hc => ?_) <;> try simp only [hc] | refine kWant_by (fun hc => ?_) (fun hc => ?_) <;> try simp only [hc])
    have := tName_spec x0.t (Nat.le_trans hL (by decide)) d.dir d.name d.more
    unfold ptrV at this
    refine callP_meets this ?_
    rintro _ h2 ⟨rfl, F2, t2, u2⟩
    obtain ⟨x2, o2⟩ := x0.tree u2 t2
    have n2 := u2.next
    have q2 := (Q (o2 _ (.inr rfl))).trans qd
    repeat' (first | simp only [evr, nextP_norm, evd, evq, beq_self_eq_true, cond_true, cond_false, reduceIte, Nat.reduceEqDiff, Nat.reduceAdd, Int.reduceBNe, Int.reduceBEq, Int.reduceLT, Int.reduceLE, Int.reduceEq, evh, evp, Nat.reduceLeDiff, Nat.reduceSub, Nat.reduceBEq, typs, g0, g1, g5, g6, q2, qd] | refine kCond2_by (fun hc => ?_) (fun hc => ?_) <;> try simp only [hc] | refine kPick_by (fun hc => ?_) (fun hc => ?_) <;> try simp only [hc] | refine kWant_by (fun hc => ?_) (fun hc => ?_) <;> try simp only [hc])
    have := rName_spec x2.r (Nat.le_trans hL (by decide)) d.dir d.name d.more
    unfold ptrV at this
    refine callP_meets this ?_
    rintro _ h3 ⟨rfl, G3, r3, u3⟩
    obtain ⟨x3, o3⟩ := x2.ref u3 r3
    have n3 := u3.next
    have q3 := (Q ((o3 _ (.inr rfl)).trans (o2 _ (.inr rfl)))).trans qd
    repeat' (first | simp only [evr, nextP_norm, evd, evq, beq_self_eq_true, cond_true, cond_false, reduceIte, Nat.reduceEqDiff, Nat.reduceAdd, Int.reduceBNe, Int.reduceBEq, Int.reduceLT, Int.reduceLE, Int.reduceEq, evh, evp, Nat.reduceLeDiff, Nat.reduceSub, Nat.reduceBEq, typs, g0, g1, g5, g6, q3, q2, qd] | refine kCond2_by (fun hc => ?_) (fun hc => ?_) <;> try simp only [hc] | refine kPick_by (fun hc => ?_) (fun hc => ?_) <;> try simp only [hc] | refine kWant_by (fun hc => ?_) (fun hc => ?_) <;> try simp only [hc])
    exact fin x3 (by omega) fun k hk => (o3 k hk).trans (o2 k hk)
  have f5 : (d.act == 5) = false := by simp [e5]
  by_cases e6 : d.act = 6
  · have f6 : (d.act == 6) = true := by simp [e6]
    have st : T.step d = (T.unname d.dir d.name).1 := by unfold Hi.step; rw [if_neg e1, if_neg e5, if_pos e6]
    rw [st] at fin ⊢
    repeat' (first | simp only [evr, nextP_norm, evd, evq, beq_self_eq_true, cond_true, cond_false, reduceIte, Nat.reduceEqDiff, Nat.reduceAdd, Int.reduceBNe, Int.reduceBEq, Int.reduceLT, Int.reduceLE, Int.reduceEq, evh, evp, Nat.reduceLeDiff, Nat.reduceSub, Nat.reduceBEq, typs, g0, g1, g5, g6, qd, f1, f5, f6] | refine kCond2_by (fun hc => ?_) (fun hc => ?_) <;> try simp only [hc] | refine kPick_by (fun hc => ?_) (fun hc => ?_) <;> try simp only [hc] | refine kWant_by (fun hc => ?_) (fun hc => ?_) <;> try simp only [hc])
    refine Wp_drawE [0, 0, 1, 0, 1, 3, 0, 0, 1, 0, 1, 4, 0, 0] (KR.mk (by kernel_rfl)) ?_
    repeat' (first | simp only [evr, nextP_norm, evd, evq, beq_self_eq_true, cond_true, cond_false, reduceIte, Nat.reduceEqDiff, Nat.reduceAdd, Int.reduceBNe, Int.reduceBEq, Int.reduceLT, Int.reduceLE, Int.reduceEq, evh, evp, Nat.reduceLeDiff, Nat.reduceSub, Nat.reduceBEq, typs, g0, g1, g5, g6, qd] | refine kCond2_by (fun hc => ?_) (fun hc => ?_) <;> try simp only [hc] | refine kPick_by (fun hc => ?_) (fun hc => ?_) <;> try simp only [hc] | refine kWant_by (fun hc => ?_) (fun hc => ?_) <;> try simp only [hc])
    have := tUnname_spec x0.t (Nat.le_trans hL (by decide)) d.dir d.name
    unfold ptrV at this
    refine callP_meets this ?_
    rintro _ h2 ⟨rfl, F2, t2, u2⟩
    obtain ⟨x2, o2⟩ := x0.tree u2 t2
    have n2 := u2.next
    have q2 := (Q (o2 _ (.inr rfl))).trans qd
    repeat' (first | simp only [evr, nextP_norm, evd, evq, beq_self_eq_true, cond_true, cond_false, reduceIte, Nat.reduceEqDiff, Nat.reduceAdd, Int.reduceBNe, Int.reduceBEq, Int.reduceLT, Int.reduceLE, Int.reduceEq, evh, evp, Nat.reduceLeDiff, Nat.reduceSub, Nat.reduceBEq, typs, g0, g1, g5, g6, q2, qd] | refine kCond2_by (fun hc => ?_) (fun hc => ?_) <;> try simp only [hc] | refine kPick_by (fun hc => ?_) (fun hc => ?_) <;> try simp only [hc] | refine kWant_by (fun hc => ?_) (fun hc => ?_) <;> try simp only [hc])
    have := rUnname_spec x2.r (Nat.le_trans hL (by decide)) d.dir d.name
    unfold ptrV at this
    refine callP_meets this ?_
    rintro _ h3 ⟨rfl, G3, r3, u3⟩
    obtain ⟨x3, o3⟩ := x2.ref u3 r3
    have n3 := u3.next
    have q3 := (Q ((o3 _ (.inr rfl)).trans (o2 _ (.inr rfl)))).trans qd
    repeat' (first | simp only [evr, nextP_norm, evd, evq, beq_self_eq_true, cond_true, cond_false, reduceIte, Nat.reduceEqDiff, Nat.reduceAdd, Int.reduceBNe, Int.reduceBEq, Int.reduceLT, Int.reduceLE, Int.reduceEq, evh, evp, Nat.reduceLeDiff, Nat.reduceSub, Nat.reduceBEq, typs, g0, g1, g5, g6, q3, q2, qd] | refine kCond2_by (fun hc => ?_) (fun hc => ?_) <;> try simp only [hc] | refine kPick_by (fun hc => ?_) (fun hc => ?_) <;> try simp only [hc] | refine kWant_by (fun hc => ?_) (fun hc => ?_) <;> try simp only [hc])
    exact fin x3 (by omega) fun k hk => (o3 k hk).trans (o2 k hk)
  have f6 : (d.act == 6) = false := by simp [e6]
  by_cases e7 : d.act = 7
  · have f7 : (d.act == 7) = true := by simp [e7]
    have st : T.step d = (T.delete d.dir d.name).1 := by unfold Hi.step; rw [if_neg e1, if_neg e5, if_neg e6, if_pos e7]
    rw [st] at fin ⊢
    repeat' (first | simp only [evr, nextP_norm, evd, evq, beq_self_eq_true, cond_true, cond_false, reduceIte, Nat.reduceEqDiff, Nat.reduceAdd, Int.reduceBNe, Int.reduceBEq, Int.reduceLT, Int.reduceLE, Int.reduceEq, evh, evp, Nat.reduceLeDiff, Nat.reduceSub, Nat.reduceBEq, typs, g0, g1, g5, g6, qd, f1, f5, f6, f7] | refine kCond2_by (fun hc => ?_) (fun hc => ?_) <;> try simp only [hc] | refine kPick_by (fun hc => ?_) (fun hc => ?_) <;> try simp only [hc] | refine kWant_by (fun hc => ?_) (fun hc => ?_) <;> try simp only [hc])
    have hd : (T.delete d.dir d.name).2.1.acl.length ≤ 1000000000 := by
      obtain ⟨_, _, _, _, t⟩ := x0.t
      unfold Hi.delete
      split
      · simp [noBn]
      · split
        · simp [noBn]
        · exact t.acl _
    have := tDelete_spec x0.t (Nat.le_trans hL (by decide)) d.dir d.name
    unfold ptrV at this
    refine callP_meets this ?_
    rintro _ h2 ⟨⟨s2, rfl, w2⟩, F2, t2, u2⟩
    obtain ⟨x2, o2⟩ := x0.tree u2 t2
    have n2 := u2.next
    obtain ⟨z1, z2⟩ := TmSl.cell w2.slAt'
    unfold bnC
    simp only [evr, evd, evq, beq_self_eq_true, cond_true, cond_false, reduceIte, Nat.reduceEqDiff, Nat.reduceAdd, Int.reduceBNe, Int.reduceBEq, Int.reduceLT, Int.reduceLE, Int.reduceEq, evh, evp, Nat.reduceLeDiff, Nat.reduceSub, Nat.reduceBEq, typs, g0, g1, g5, g6, z1, z2]
    rw [nextP_norm]
    generalize hh : Hp.set _ _ _ = H3
    have k3 : Keep h2 H3 := by rw [← hh]; exact (Keep.push _ _).set (Nat.le_refl _)
    have n3 : H3.next = h2.next + 1 := by rw [← hh]; rfl
    have a3 : H3.get h2.next = some (.row (bnC (T.delete d.dir d.name).2.1 s2) 40 (.rw 0 [])) := by rw [← hh]; exact Hp.get_set_self _ _ _
    clear hh
    have x3 := (x2.keeps k3).more (b := h2.next) (by omega) (fun hf => by have := x2.t.ltF' hf; omega) (fun hg => by have := x2.r.lt hg; omega)
    have w3 : TmTy H3 (fun k => H.next ≤ k ∧ k < h2.next) s2 (T.delete d.dir d.name).2.1.acl := by
      have := SlTy.within w2
      exact SlTy.keepF this k3.1 fun k hk => k3.2 k hk.2
    have q3 := (Q ((k3.2 _ (by omega)).trans (o2 _ (.inr rfl)))).trans qd
    repeat' (first | simp only [evr, nextP_norm, evd, evq, beq_self_eq_true, cond_true, cond_false, reduceIte, Nat.reduceEqDiff, Nat.reduceAdd, Int.reduceBNe, Int.reduceBEq, Int.reduceLT, Int.reduceLE, Int.reduceEq, evh, evp, Nat.reduceLeDiff, Nat.reduceSub, Nat.reduceBEq, typs, g0, g1, g5, g6, q3] | refine kCond2_by (fun hc => ?_) (fun hc => ?_) <;> try simp only [hc] | refine kPick_by (fun hc => ?_) (fun hc => ?_) <;> try simp only [hc] | refine kWant_by (fun hc => ?_) (fun hc => ?_) <;> try simp only [hc])
    have := rDelete_spec x3.r (Nat.le_trans hL (by decide)) d.dir d.name
    unfold ptrV at this
    refine callP_meets this ?_
    rintro _ h4 ⟨s4, G4, rfl, w4, r4, u4⟩
    obtain ⟨x4, o4⟩ := x3.ref u4 r4
    have n4 := u4.next
    obtain ⟨y1, y2⟩ := TmSl.cell w4.slAt'
    have w4' : TmTy h4 (fun k => H.next ≤ k ∧ k < h2.next) s2 (T.delete d.dir d.name).2.1.acl := SlTy.keepF w3 n4 fun k hk => u4.same k (by omega) fun hg => by have := x0.r.lt hg; omega
    unfold bnC
    simp only [evr, evd, evq, beq_self_eq_true, cond_true, cond_false, reduceIte, Nat.reduceEqDiff, Nat.reduceAdd, Int.reduceBNe, Int.reduceBEq, Int.reduceLT, Int.reduceLE, Int.reduceEq, evh, evp, Nat.reduceLeDiff, Nat.reduceSub, Nat.reduceBEq, typs, g0, g1, g5, g6, y1, y2]
    rw [nextP_norm]
    generalize hh : Hp.set _ _ _ = H5
    have k5 : Keep h4 H5 := by rw [← hh]; exact (Keep.push _ _).set (Nat.le_refl _)
    have n5 : H5.next = h4.next + 1 := by rw [← hh]; rfl
    have b5 : H5.get h4.next = some (.row (bnC (T.delete d.dir d.name).2.1 s4) 34 (.rw 0 [])) := by rw [← hh]; exact Hp.get_set_self _ _ _
    clear hh
    have qb := rowOf_rw b5
    have qa := rowOf_rw ((k5.2 _ (by omega)).trans ((o4 _ (.inr rfl)).trans a3))
    unfold bnC at qa qb
    repeat' (first | simp only [evr, nextP_norm, evd, evq, beq_self_eq_true, cond_true, cond_false, reduceIte, Nat.reduceEqDiff, Nat.reduceAdd, Int.reduceBNe, Int.reduceBEq, Int.reduceLT, Int.reduceLE, Int.reduceEq, evh, evp, Nat.reduceLeDiff, Nat.reduceSub, Nat.reduceBEq, typs, g0, g1, g5, g6, qa, qb] | refine kCond2_by (fun hc => ?_) (fun hc => ?_) <;> try simp only [hc] | refine kPick_by (fun hc => ?_) (fun hc => ?_) <;> try simp only [hc] | refine kWant_by (fun hc => ?_) (fun hc => ?_) <;> try simp only [hc])
    refine Wp_drawE [0, 0, 0, 0, 1, 3, 1, 4, 0, 0] (KR.mk (by kernel_rfl)) ?_
    repeat' (first | simp only [evr, nextP_norm, evd, evq, beq_self_eq_true, cond_true, cond_false, reduceIte, Nat.reduceEqDiff, Nat.reduceAdd, Int.reduceBNe, Int.reduceBEq, Int.reduceLT, Int.reduceLE, Int.reduceEq, evh, evp, Nat.reduceLeDiff, Nat.reduceSub, Nat.reduceBEq, typs, g0, g1, g5, g6, qa, qb] | refine kCond2_by (fun hc => ?_) (fun hc => ?_) <;> try simp only [hc] | refine kPick_by (fun hc => ?_) (fun hc => ?_) <;> try simp only [hc] | refine kWant_by (fun hc => ?_) (fun hc => ?_) <;> try simp only [hc])
    have := model_spec (h := H5) (x := (T.delete d.dir d.name).2.1) (SlAt.keep w4'.slAt' k5)
    unfold bnC at this
    refine callP_meets this ?_
    rintro _ h6 ⟨rfl, k6⟩
    have qa6 := rowOf_rw ((k6.2 _ (by omega)).trans ((k5.2 _ (by omega)).trans ((o4 _ (.inr rfl)).trans a3)))
    have qb6 := rowOf_rw ((k6.2 _ (by omega)).trans b5)
    unfold bnC at qa6 qb6
    repeat' (first | simp only [evr, nextP_norm, evd, evq, beq_self_eq_true, cond_true, cond_false, reduceIte, Nat.reduceEqDiff, Nat.reduceAdd, Int.reduceBNe, Int.reduceBEq, Int.reduceLT, Int.reduceLE, Int.reduceEq, evh, evp, Nat.reduceLeDiff, Nat.reduceSub, Nat.reduceBEq, typs, g0, g1, g5, g6, qa, qb, qa6, qb6] | refine kCond2_by (fun hc => ?_) (fun hc => ?_) <;> try simp only [hc] | refine kPick_by (fun hc => ?_) (fun hc => ?_) <;> try simp only [hc] | refine kWant_by (fun hc => ?_) (fun hc => ?_) <;> try simp only [hc])
    have := sameBranch_spec (SlAt.keep (SlAt.keep w4'.slAt' k5) k6) (SlAt.keep (SlAt.keep w4.slAt' k5) k6) hd hd
    unfold bnC at this
    refine callP_meets this ?_
    rintro _ h7 ⟨rfl, k7⟩
    have qa7 := rowOf_rw ((k7.2 _ (by have := k6.1; omega)).trans ((k6.2 _ (by omega)).trans ((k5.2 _ (by omega)).trans ((o4 _ (.inr rfl)).trans a3))))
    have qb7 := rowOf_rw ((k7.2 _ (by have := k6.1; omega)).trans ((k6.2 _ (by omega)).trans b5))
    unfold bnC at qa7 qb7
    have tt : decide ((T.delete d.dir d.name).2.1 = (T.delete d.dir d.name).2.1) = true := decide_eq_true rfl
    repeat' (first | simp only [evr, nextP_norm, evd, evq, beq_self_eq_true, cond_true, cond_false, reduceIte, Nat.reduceEqDiff, Nat.reduceAdd, Int.reduceBNe, Int.reduceBEq, Int.reduceLT, Int.reduceLE, Int.reduceEq, evh, evp, Nat.reduceLeDiff, Nat.reduceSub, Nat.reduceBEq, typs, g0, g1, g5, g6, qa, qb, qa6, qb6, qa7, qb7, tt] | refine kCond2_by (fun hc => ?_) (fun hc => ?_) <;> try simp only [hc] | refine kPick_by (fun hc => ?_) (fun hc => ?_) <;> try simp only [hc] | refine kWant_by (fun hc => ?_) (fun hc => ?_) <;> try simp only [hc])
    have x7 := ((x4.keeps k5).keeps k6).keeps k7
    have n6 := k6.1
    have n7 := k7.1
    exact fin ⟨x7.t, x7.r, x7.dj, fun k hk => x7.p k (.inl hk)⟩ (by omega) fun k hk => by
      have := (x0.p k hk).2.2
      exact (k7.2 k (by omega)).trans ((k6.2 k (by omega)).trans ((k5.2 k (by omega)).trans ((o4 k (.inl hk)).trans ((k3.2 k (by omega)).trans (o2 k hk)))))
  have f7 : (d.act == 7) = false := by simp [e7]
  by_cases e8 : d.act = 8
  · have f8 : (d.act == 8) = true := by simp [e8]
    have st : T.step d = (T.access d.dir d.name d.b.acl).1 := by unfold Hi.step; rw [if_neg e1, if_neg e5, if_neg e6, if_neg e7, if_pos e8]
    rw [st] at fin ⊢
    repeat' (first | simp only [evr, nextP_norm, evd, evq, beq_self_eq_true, cond_true, cond_false, reduceIte, Nat.reduceEqDiff, Nat.reduceAdd, Int.reduceBNe, Int.reduceBEq, Int.reduceLT, Int.reduceLE, Int.reduceEq, evh, evp, Nat.reduceLeDiff, Nat.reduceSub, Nat.reduceBEq, typs, g0, g1, g5, g6, qd, f1, f5, f6, f7, f8] | refine kCond2_by (fun hc => ?_) (fun hc => ?_) <;> try simp only [hc] | refine kPick_by (fun hc => ?_) (fun hc => ?_) <;> try simp only [hc] | refine kWant_by (fun hc => ?_) (fun hc => ?_) <;> try simp only [hc])
    refine Wp_drawE [0, 0, 1, 0, 1, 0, 0, 1, 3, 0, 0, 1, 0, 1, 0, 0, 1, 4, 0, 0] (KR.mk (by kernel_rfl)) ?_
    repeat' (first | simp only [evr, nextP_norm, evd, evq, beq_self_eq_true, cond_true, cond_false, reduceIte, Nat.reduceEqDiff, Nat.reduceAdd, Int.reduceBNe, Int.reduceBEq, Int.reduceLT, Int.reduceLE, Int.reduceEq, evh, evp, Nat.reduceLeDiff, Nat.reduceSub, Nat.reduceBEq, typs, g0, g1, g5, g6, qd] | refine kCond2_by (fun hc => ?_) (fun hc => ?_) <;> try simp only [hc] | refine kPick_by (fun hc => ?_) (fun hc => ?_) <;> try simp only [hc] | refine kWant_by (fun hc => ?_) (fun hc => ?_) <;> try simp only [hc])
    have := tAccess_spec x0.t d.dir d.name (sl0 (Nat.le_refl _) fun _ _ => rfl) hl
    unfold ptrV at this
    refine callP_meets this ?_
    rintro _ h2 ⟨rfl, F2, t2, u2⟩
    obtain ⟨x2, o2⟩ := x0.tree u2 t2
    have n2 := u2.next
    have q2 := (Q (o2 _ (.inr rfl))).trans qd
    repeat' (first | simp only [evr, nextP_norm, evd, evq, beq_self_eq_true, cond_true, cond_false, reduceIte, Nat.reduceEqDiff, Nat.reduceAdd, Int.reduceBNe, Int.reduceBEq, Int.reduceLT, Int.reduceLE, Int.reduceEq, evh, evp, Nat.reduceLeDiff, Nat.reduceSub, Nat.reduceBEq, typs, g0, g1, g5, g6, q2, qd] | refine kCond2_by (fun hc => ?_) (fun hc => ?_) <;> try simp only [hc] | refine kPick_by (fun hc => ?_) (fun hc => ?_) <;> try simp only [hc] | refine kWant_by (fun hc => ?_) (fun hc => ?_) <;> try simp only [hc])
    have := rAccess_spec x2.r (Nat.le_trans hL (by decide)) (sl0 n2 o2) hl d.dir d.name
    unfold ptrV at this
    refine callP_meets this ?_
    rintro _ h3 ⟨rfl, G3, r3, u3⟩
    obtain ⟨x3, o3⟩ := x2.ref u3 r3
    have n3 := u3.next
    have q3 := (Q ((o3 _ (.inr rfl)).trans (o2 _ (.inr rfl)))).trans qd
    repeat' (first | simp only [evr, nextP_norm, evd, evq, beq_self_eq_true, cond_true, cond_false, reduceIte, Nat.reduceEqDiff, Nat.reduceAdd, Int.reduceBNe, Int.reduceBEq, Int.reduceLT, Int.reduceLE, Int.reduceEq, evh, evp, Nat.reduceLeDiff, Nat.reduceSub, Nat.reduceBEq, typs, g0, g1, g5, g6, q3, q2, qd] | refine kCond2_by (fun hc => ?_) (fun hc => ?_) <;> try simp only [hc] | refine kPick_by (fun hc => ?_) (fun hc => ?_) <;> try simp only [hc] | refine kWant_by (fun hc => ?_) (fun hc => ?_) <;> try simp only [hc])
    exact fin x3 (by omega) fun k hk => (o3 k hk).trans (o2 k hk)
  have f8 : (d.act == 8) = false := by simp [e8]
  have st : T.step d = (T.ringed d.dir d.name d.b.b).1 := by unfold Hi.step; rw [if_neg e1, if_neg e5, if_neg e6, if_neg e7, if_neg e8]
  rw [st] at fin ⊢
  repeat' (first | simp only [evr, nextP_norm, evd, evq, beq_self_eq_true, cond_true, cond_false, reduceIte, Nat.reduceEqDiff, Nat.reduceAdd, Int.reduceBNe, Int.reduceBEq, Int.reduceLT, Int.reduceLE, Int.reduceEq, evh, evp, Nat.reduceLeDiff, Nat.reduceSub, Nat.reduceBEq, typs, g0, g1, g5, g6, qd, f1, f5, f6, f7, f8] | refine kCond2_by (fun hc => ?_) (fun hc => ?_) <;> try simp only [hc] | refine kPick_by (fun hc => ?_) (fun hc => ?_) <;> try simp only [hc] | refine kWant_by (fun hc => ?_) (fun hc => ?_) <;> try simp only [hc])
  refine Wp_drawE [0, 0, 1, 0, 1, 0, 0, 1, 3, 0, 0, 1, 0, 1, 0, 0, 1, 4, 0, 0] (KR.mk (by kernel_rfl)) ?_
  repeat' (first | simp only [evr, nextP_norm, evd, evq, beq_self_eq_true, cond_true, cond_false, reduceIte, Nat.reduceEqDiff, Nat.reduceAdd, Int.reduceBNe, Int.reduceBEq, Int.reduceLT, Int.reduceLE, Int.reduceEq, evh, evp, Nat.reduceLeDiff, Nat.reduceSub, Nat.reduceBEq, typs, g0, g1, g5, g6, qd] | refine kCond2_by (fun hc => ?_) (fun hc => ?_) <;> try simp only [hc] | refine kPick_by (fun hc => ?_) (fun hc => ?_) <;> try simp only [hc] | refine kWant_by (fun hc => ?_) (fun hc => ?_) <;> try simp only [hc])
  have := tRinged_spec x0.t d.dir d.name d.b.b
  unfold ptrV bkV at this
  refine callP_meets this ?_
  rintro _ h2 ⟨rfl, F2, t2, u2⟩
  obtain ⟨x2, o2⟩ := x0.tree u2 t2
  have n2 := u2.next
  have q2 := (Q (o2 _ (.inr rfl))).trans qd
  repeat' (first | simp only [evr, nextP_norm, evd, evq, beq_self_eq_true, cond_true, cond_false, reduceIte, Nat.reduceEqDiff, Nat.reduceAdd, Int.reduceBNe, Int.reduceBEq, Int.reduceLT, Int.reduceLE, Int.reduceEq, evh, evp, Nat.reduceLeDiff, Nat.reduceSub, Nat.reduceBEq, typs, g0, g1, g5, g6, q2, qd] | refine kCond2_by (fun hc => ?_) (fun hc => ?_) <;> try simp only [hc] | refine kPick_by (fun hc => ?_) (fun hc => ?_) <;> try simp only [hc] | refine kWant_by (fun hc => ?_) (fun hc => ?_) <;> try simp only [hc])
  have := rRinged_spec x2.r (Nat.le_trans hL (by decide)) d.b.b d.dir d.name
  unfold ptrV at this
  refine callP_meets this ?_
  rintro _ h3 ⟨rfl, G3, r3, u3⟩
  obtain ⟨x3, o3⟩ := x2.ref u3 r3
  have n3 := u3.next
  have q3 := (Q ((o3 _ (.inr rfl)).trans (o2 _ (.inr rfl)))).trans qd
  repeat' (first | simp only [evr, nextP_norm, evd, evq, beq_self_eq_true, cond_true, cond_false, reduceIte, Nat.reduceEqDiff, Nat.reduceAdd, Int.reduceBNe, Int.reduceBEq, Int.reduceLT, Int.reduceLE, Int.reduceEq, evh, evp, Nat.reduceLeDiff, Nat.reduceSub, Nat.reduceBEq, typs, g0, g1, g5, g6, q3, q2, qd] | refine kCond2_by (fun hc => ?_) (fun hc => ?_) <;> try simp only [hc] | refine kPick_by (fun hc => ?_) (fun hc => ?_) <;> try simp only [hc] | refine kWant_by (fun hc => ?_) (fun hc => ?_) <;> try simp only [hc])
  exact fin x3 (by omega) fun k hk => (o3 k hk).trans (o2 k hk)
end Go.Proofs.YtncmgiddcefpcaaGreatDoor
namespace Go.Proofs.YtncmgiddcefpcaaGreatDoor
open Go Go.Ev Go.Con
set_option linter.unusedSimpArgs false
set_option linter.unusedVariables false
set_option maxRecDepth 100000
def DdSl (h : Hp) (v : Value) (l : List Dd) : Prop := ∃ cs, SlAt h 14 v cs ∧ cs.length = l.length * 14 ∧ ∀ i d, l[i]? = some d → ∃ sl, (cs.drop (i * 14)).take 14 = ddC d sl ∧ TmSl h sl d.b.acl
section
variable {h : Hp} {v : Value} {l : List Dd}
theorem DdSl.keep {h' : Hp} (s : DdSl h v l) (k : Keep h h') : DdSl h' v l := by
  obtain ⟨cs, h1, h2, h3⟩ := s
  exact ⟨cs, SlAt.keep h1 k, h2, fun i d hi => by obtain ⟨sl, e1, e2⟩ := h3 i d hi; exact ⟨sl, e1, SlAt.keep e2 k⟩⟩
theorem DdSl.len (s : DdSl h v l) : evLen kon.P 22 v = some (.int .i64 l.length) := by
  obtain ⟨cs, s, hc, _⟩ := s
  rcases s with ⟨rfl, hl⟩ | ⟨b, o, k, c, all, rfl, h2, h3, h4, h5, h6⟩
  · rw [hl] at hc
    have : l = [] := List.length_eq_zero_iff.1 (by simp at hc; omega)
    subst this; exact evLen_slice (e := 36) (by kernel_rfl)
  · have : k = l.length := by omega
    subst this
    exact evLen_slice (e := 36) (by kernel_rfl)
theorem DdSl.at (s : DdSl h v l) {i : Nat} {d : Dd} (hi : l[i]? = some d) : ∃ b o all sl, evIndexAddr kon.P 22 v (.int .i64 i) = some (.pointer (some ⟨b, o, none⟩)) ∧ b < h.next ∧
    rowOf h b = some all ∧ o + 14 ≤ all.length ∧ (all.drop o).take 14 = ddC d sl ∧ TmSl h sl d.b.acl := by
  have hlt : i < l.length := (List.getElem?_eq_some_iff.1 hi).1
  obtain ⟨cs, s, hc, ha⟩ := s
  obtain ⟨sl, e1, e2⟩ := ha i d hi
  rcases s with ⟨rfl, hl⟩ | ⟨b, o, k, c, all, rfl, h2, h3, h4, h5, h6⟩
  · rw [hl] at hc; simp at hc; omega
  · have hk : l.length = k := by omega
    subst hk
    have hz : o + l.length * 14 ≤ all.length := by
      have := congrArg List.length h6
      rw [List.length_take, List.length_drop, hc] at this; omega
    refine ⟨b, o + i * 14, all, sl, ?_, h3, h4, by omega, ?_, e2⟩
    · have := L_indexAddr (C := kon) (t := 22) (e := 36) (n := 14) (by kernel_rfl) (by kernel_rfl) b o l.length c .i64 i (by omega) (by omega)
      simpa using this
    · rw [← e1, ← h6, List.drop_take, List.take_take, List.drop_drop]
      congr 1; omega
theorem dd_cell {all : List Value} {o : Nat} {d : Dd} {sl : Value} (h : (all.drop o).take 14 = ddC d sl) : all[o + 2]? = some (.string d.name) ∧ all[o + 3]? = some (.string d.more) ∧ all[o + 4 + 3]? = some (.string d.b.link) ∧ all[o + 4 + 5]? = some sl := by
  have e : ∀ j, j < 14 → all[o + j]? = (ddC d sl)[j]? := fun j hj => by rw [← h, List.getElem?_take, if_pos hj, List.getElem?_drop]
  exact ⟨e 2 (by decide), e 3 (by decide), e 7 (by decide), e 9 (by decide)⟩
end
def smallD (d : Dd) : Bool := decide (d.name.size ≤ 200) && decide (d.more.size ≤ 200) && decide (d.b.link.size ≤ 400) && decide (d.b.acl.length ≤ 40)
def small (l : List Dd) : Bool := decide (l.length ≤ 121) && l.all smallD
set_option maxHeartbeats 4000000 in
theorem small_spec {h : Hp} {v : Value} {l : List Dd} (s : DdSl h v l) : Meets kon 12 [v] h fun u h' => u = .bool (small l) ∧ h' = h := by
  have ll := s.len
  refine Meets.mk rfl (by kernel_rfl) Tryz.func12 rfl (congrArg Array.toList Tryz.results12) ?_
  repeat' (first | simp only [evr, nextP_norm, evd, evq, beq_self_eq_true, cond_true, cond_false, reduceIte, Nat.reduceEqDiff, Nat.reduceAdd, Int.reduceBNe, Int.reduceBEq, Int.reduceLT, Int.reduceLE, Int.reduceEq, evh, evp, Nat.reduceLeDiff, Nat.reduceSub, Nat.reduceBEq, typs] | refine kCond2_by (fun hc => ?_) (fun hc => ?_) <;> try simp only [hc] | refine kPick_by (fun hc => ?_) (fun hc => ?_) <;> try simp only [hc] | refine kWant_by (fun hc => ?_) (fun hc => ?_) <;> try simp only [hc])
  refine Wp_loop (fun k fr h' => h' = h ∧ ∃ i : Nat, k = l.length - i ∧ i ≤ l.length ∧ i ≤ 121 ∧ fr.get 0 = some v ∧ fr.get 3 = some (.int .i64 i) ∧ ∀ x ∈ l.take i, smallD x = true) l.length ⟨rfl, 0, rfl, Nat.zero_le _, Nat.zero_le _, ?_, ?_, by simp⟩ ?_
  · repeat' (first | simp only [evr, nextP_norm, evd, evq, beq_self_eq_true, cond_true, cond_false, reduceIte, Nat.reduceEqDiff, Nat.reduceAdd, Int.reduceBNe, Int.reduceBEq, Int.reduceLT, Int.reduceLE, Int.reduceEq, evh, evp, Nat.reduceLeDiff, Nat.reduceSub, Nat.reduceBEq, typs] | refine kCond2_by (fun hc => ?_) (fun hc => ?_) <;> try simp only [hc] | refine kPick_by (fun hc => ?_) (fun hc => ?_) <;> try simp only [hc] | refine kWant_by (fun hc => ?_) (fun hc => ?_) <;> try simp only [hc])
  · repeat' (first | simp only [evr, nextP_norm, evd, evq, beq_self_eq_true, cond_true, cond_false, reduceIte, Nat.reduceEqDiff, Nat.reduceAdd, Int.reduceBNe, Int.reduceBEq, Int.reduceLT, Int.reduceLE, Int.reduceEq, evh, evp, Nat.reduceLeDiff, Nat.reduceSub, Nat.reduceBEq, typs] | refine kCond2_by (fun hc => ?_) (fun hc => ?_) <;> try simp only [hc] | refine kPick_by (fun hc => ?_) (fun hc => ?_) <;> try simp only [hc] | refine kWant_by (fun hc => ?_) (fun hc => ?_) <;> try simp only [hc])
    rfl
  rintro k fr h1 ⟨he, i, rfl, hi, h121, r0, r3, hp⟩
  rw [he]
  clear he
  by_cases h3 : i < l.length
  · have f3 : decide ((i : Int) < (l.length : Int)) = true := decide_eq_true (by omega)
    obtain ⟨b, o, all, sl, pa, hb, hr, hz, hc, hs⟩ := s.at (List.getElem?_eq_getElem h3)
    obtain ⟨q2, q3, q7, q9⟩ := dd_cell hc
    have le := TmSl.len hs
    have no : smallD l[i] = false → Value.bool false = .bool (small l) := fun e => by
      have : small l = false := by
        unfold small
        rw [Bool.and_eq_false_iff]; right
        rw [List.all_eq_false]; exact ⟨_, List.getElem_mem h3, by simp [e]⟩
      rw [this]
    have yes : small l = true → ∀ x ∈ l, smallD x = true := fun e => by unfold small at e; rw [Bool.and_eq_true, List.all_eq_true] at e; exact e.2
    by_cases h4 : i = 121
    · subst h4
      have f4 : decide ((120 : Int) < ((121 : Nat) : Int)) = true := rfl
      repeat' (first | simp only [evr, nextP_norm, evd, evq, beq_self_eq_true, cond_true, cond_false, reduceIte, Nat.reduceEqDiff, Nat.reduceAdd, Int.reduceBNe, Int.reduceBEq, Int.reduceLT, Int.reduceLE, Int.reduceEq, evh, evp, Nat.reduceLeDiff, Nat.reduceSub, Nat.reduceBEq, typs, r0, r3, ll, f3, f4] | refine kCond2_by (fun hc => ?_) (fun hc => ?_) <;> try simp only [hc] | refine kPick_by (fun hc => ?_) (fun hc => ?_) <;> try simp only [hc] | refine kWant_by (fun hc => ?_) (fun hc => ?_) <;> try simp only [hc])
      rw [show small l = false from by unfold small; rw [Bool.and_eq_false_iff]; left; simp; omega]
    have f4 : decide ((120 : Int) < (i : Int)) = false := decide_eq_false (by omega)
    by_cases h5 : ¬ l[i].name.size ≤ 200
    · have f5 : decide ((200 : Int) < (l[i].name.size : Int)) = true := decide_eq_true (by omega)
      repeat' (first | simp only [evr, nextP_norm, evd, evq, beq_self_eq_true, cond_true, cond_false, reduceIte, Nat.reduceEqDiff, Nat.reduceAdd, Int.reduceBNe, Int.reduceBEq, Int.reduceLT, Int.reduceLE, Int.reduceEq, evh, evp, Nat.reduceLeDiff, Nat.reduceSub, Nat.reduceBEq, typs, r0, r3, ll, f3, f4, pa, hr, q2, f5] | refine kCond2_by (fun hc => ?_) (fun hc => ?_) <;> try simp only [hc] | refine kPick_by (fun hc => ?_) (fun hc => ?_) <;> try simp only [hc] | refine kWant_by (fun hc => ?_) (fun hc => ?_) <;> try simp only [hc])
      exact no (by unfold smallD; simp [h5])
    have f5 : decide ((200 : Int) < (l[i].name.size : Int)) = false := decide_eq_false (by omega)
    by_cases h6 : ¬ l[i].more.size ≤ 200
    · have f6 : decide ((200 : Int) < (l[i].more.size : Int)) = true := decide_eq_true (by omega)
      repeat' (first | simp only [evr, nextP_norm, evd, evq, beq_self_eq_true, cond_true, cond_false, reduceIte, Nat.reduceEqDiff, Nat.reduceAdd, Int.reduceBNe, Int.reduceBEq, Int.reduceLT, Int.reduceLE, Int.reduceEq, evh, evp, Nat.reduceLeDiff, Nat.reduceSub, Nat.reduceBEq, typs, r0, r3, ll, f3, f4, pa, hr, q2, f5, q3, f6] | refine kCond2_by (fun hc => ?_) (fun hc => ?_) <;> try simp only [hc] | refine kPick_by (fun hc => ?_) (fun hc => ?_) <;> try simp only [hc] | refine kWant_by (fun hc => ?_) (fun hc => ?_) <;> try simp only [hc])
      exact no (by unfold smallD; simp [h6])
    have f6 : decide ((200 : Int) < (l[i].more.size : Int)) = false := decide_eq_false (by omega)
    by_cases h7 : ¬ l[i].b.link.size ≤ 400
    · have f7 : decide ((400 : Int) < (l[i].b.link.size : Int)) = true := decide_eq_true (by omega)
      repeat' (first | simp only [evr, nextP_norm, evd, evq, beq_self_eq_true, cond_true, cond_false, reduceIte, Nat.reduceEqDiff, Nat.reduceAdd, Int.reduceBNe, Int.reduceBEq, Int.reduceLT, Int.reduceLE, Int.reduceEq, evh, evp, Nat.reduceLeDiff, Nat.reduceSub, Nat.reduceBEq, typs, r0, r3, ll, f3, f4, pa, hr, q2, f5, q3, f6, q7, f7] | refine kCond2_by (fun hc => ?_) (fun hc => ?_) <;> try simp only [hc] | refine kPick_by (fun hc => ?_) (fun hc => ?_) <;> try simp only [hc] | refine kWant_by (fun hc => ?_) (fun hc => ?_) <;> try simp only [hc])
      exact no (by unfold smallD; simp [h7])
    have f7 : decide ((400 : Int) < (l[i].b.link.size : Int)) = false := decide_eq_false (by omega)
    by_cases h8 : ¬ l[i].b.acl.length ≤ 40
    · have f8 : decide ((40 : Int) < (l[i].b.acl.length : Int)) = true := decide_eq_true (by omega)
      repeat' (first | simp only [evr, nextP_norm, evd, evq, beq_self_eq_true, cond_true, cond_false, reduceIte, Nat.reduceEqDiff, Nat.reduceAdd, Int.reduceBNe, Int.reduceBEq, Int.reduceLT, Int.reduceLE, Int.reduceEq, evh, evp, Nat.reduceLeDiff, Nat.reduceSub, Nat.reduceBEq, typs, r0, r3, ll, f3, f4, pa, hr, q2, f5, q3, f6, q7, f7, q9, le, f8] | refine kCond2_by (fun hc => ?_) (fun hc => ?_) <;> try simp only [hc] | refine kPick_by (fun hc => ?_) (fun hc => ?_) <;> try simp only [hc] | refine kWant_by (fun hc => ?_) (fun hc => ?_) <;> try simp only [hc])
      exact no (by unfold smallD; simp [h8])
    have f8 : decide ((40 : Int) < (l[i].b.acl.length : Int)) = false := decide_eq_false (by omega)
    have wi : IntKind.i64.wrap ((i : Int) + 1) = ((i + 1 : Nat) : Int) := by rw [wrap64 (by omega) (by omega)]; omega
    have ok : smallD l[i] = true := by simp only [Decidable.not_not] at h5 h6 h7 h8; unfold smallD; simp [h5, h6, h7, h8]
    repeat' (first | simp only [evr, nextP_norm, evd, evq, beq_self_eq_true, cond_true, cond_false, reduceIte, Nat.reduceEqDiff, Nat.reduceAdd, Int.reduceBNe, Int.reduceBEq, Int.reduceLT, Int.reduceLE, Int.reduceEq, evh, evp, Nat.reduceLeDiff, Nat.reduceSub, Nat.reduceBEq, typs, r0, r3, ll, f3, f4, pa, hr, q2, f5, q3, f6, q7, f7, q9, le, f8, wi] | refine kCond2_by (fun hc => ?_) (fun hc => ?_) <;> try simp only [hc] | refine kPick_by (fun hc => ?_) (fun hc => ?_) <;> try simp only [hc] | refine kWant_by (fun hc => ?_) (fun hc => ?_) <;> try simp only [hc])
    refine ⟨l.length - (i + 1), by omega, i + 1, rfl, by omega, by omega, rfl, fun x hx => ?_⟩
    rw [List.take_add_one, List.getElem?_eq_getElem h3, List.mem_append] at hx
    rcases hx with hx | hx
    · exact hp x hx
    · simp at hx; rw [hx]; exact ok
  · have f3 : decide ((i : Int) < (l.length : Int)) = false := decide_eq_false (by omega)
    repeat' (first | simp only [evr, nextP_norm, evd, evq, beq_self_eq_true, cond_true, cond_false, reduceIte, Nat.reduceEqDiff, Nat.reduceAdd, Int.reduceBNe, Int.reduceBEq, Int.reduceLT, Int.reduceLE, Int.reduceEq, evh, evp, Nat.reduceLeDiff, Nat.reduceSub, Nat.reduceBEq, typs, r0, r3, ll, f3] | refine kCond2_by (fun hc => ?_) (fun hc => ?_) <;> try simp only [hc] | refine kPick_by (fun hc => ?_) (fun hc => ?_) <;> try simp only [hc] | refine kWant_by (fun hc => ?_) (fun hc => ?_) <;> try simp only [hc])
    have : small l = true := by
      unfold small
      rw [Bool.and_eq_true, List.all_eq_true]
      exact ⟨decide_eq_true (by omega), fun x hx => hp x (by rw [List.take_of_length_le (by omega)]; exact hx)⟩
    rw [this]
end Go.Proofs.YtncmgiddcefpcaaGreatDoor
namespace Go.Proofs.YtncmgiddcefpcaaGreatDoor
open Go Go.Ev Go.Con
set_option linter.unusedSimpArgs false
set_option linter.unusedVariables false
set_option maxRecDepth 100000
structure Both (h0 H : Hp) (T : Hi) (bt br n : Nat) : Prop where
  k : Keep h0 H
  few : T.Few n
  kin : T.Kin
  two : ∃ F G, Two H (fun k => k < h0.next) F G T T bt br
section
variable {h0 H h' : Hp} {T : Hi} {bt br n : Nat}
theorem Both.keeps (x : Both h0 H T bt br n) (k : Keep H h') : Both h0 h' T bt br n := by
  obtain ⟨a, b, c, F, G, w⟩ := x
  exact ⟨a.trans k, b, c, F, G, w.keeps k⟩
theorem Both.t (x : Both h0 H T bt br n) : ∃ F, TreeAt H F T bt := by obtain ⟨_, _, _, F, G, w⟩ := x; exact ⟨F, w.t⟩
theorem Both.r (x : Both h0 H T bt br n) : ∃ G, RefAt H G T br := by obtain ⟨_, _, _, F, G, w⟩ := x; exact ⟨G, w.r⟩
theorem Both.ok (x : Both h0 H T bt br n) : T.Ok := by obtain ⟨_, _, _, F, G, w⟩ := x; obtain ⟨_, _, _, _, t⟩ := w.t; exact t.ok
theorem Both.kinds (x : Both h0 H T bt br n) : T.Kinds := x.kin.kinds x.ok
theorem both_start {h1 h2 : Hp} {F G : Nat → Prop} (k1 : Keep h0 h1) (t : TreeAt h1 F newHi bt) (hF : ∀ k, F k → h0.next ≤ k) (k2 : Keep h1 h2) (r : RefAt h2 G newHi br) (hG : ∀ k, G k → h1.next ≤ k) : Both h0 h2 newHi bt br 0 :=
  ⟨k1.trans k2, Hi.newHi_few, Hi.newHi_kin, F, G, Two.start k1 t hF k2 r hG⟩
theorem both_do (x : Both h0 H T bt br n) (hn : n ≤ 1000) (d : Dd) {sl : Value} (hs : TmSl h0 sl d.b.acl) (hl : d.b.acl.length ≤ 1000000000) :
    Meets kon 15 [ptrV bt, ptrV br, .agg (ddC d sl).toArray] H fun v h' => v = .bool true ∧ Both h0 h' (T.step d) bt br (n + 1) := by
  obtain ⟨a, b, c, F, G, w⟩ := x
  refine (do_spec w (b.mono hn) d (fun h' h1 h2 => SlAt.keep hs ⟨Nat.le_trans a.1 h1, fun k hk => (h2 k hk).trans (a.2 k hk)⟩) hl).mono ?_
  rintro v h' ⟨rfl, F', G', w', h1, h2⟩
  exact ⟨rfl, ⟨Nat.le_trans a.1 h1, fun k hk => (h2 k hk).trans (a.2 k hk)⟩, b.step d, c.step d, F', G', w'⟩
end
theorem small_len {l : List Dd} (h : small l = true) : l.length ≤ 121 ∧ ∀ d ∈ l, d.b.acl.length ≤ 1000000000 := by
  unfold small at h
  rw [Bool.and_eq_true, List.all_eq_true] at h
  refine ⟨of_decide_eq_true h.1, fun d hd => ?_⟩
  have := h.2 d hd
  unfold smallD at this
  simp only [Bool.and_eq_true, decide_eq_true_eq] at this
  omega
theorem steps_take {l : List Dd} {i : Nat} (h : i < l.length) : newHi.steps (l.take (i + 1)) = (newHi.steps (l.take i)).step l[i] := by
  rw [List.take_add_one, List.getElem?_eq_getElem h]; exact Hi.steps_app _ _ _
end Go.Proofs.YtncmgiddcefpcaaGreatDoor
namespace Go.Con
open Go
set_option linter.unusedSimpArgs false
set_option linter.unusedVariables false
def fstI {α : Type} (p : α → Bool) (l : List α) : Int := match l.findIdx? fun m => !p m with
  | some k => k
  | none => -1
theorem fstI_ge {α : Type} (p : α → Bool) (l : List α) : -1 ≤ fstI p l := by unfold fstI; split <;> omega
theorem fstI_le {α : Type} (p : α → Bool) (l : List α) : fstI p l ≤ l.length := by
  unfold fstI
  split
  · rename_i k h
    have := (List.findIdx?_eq_some_iff_getElem.1 h).1
    omega
  · omega
theorem fstI_app {α : Type} (p : α → Bool) (a b : List α) : fstI p (a ++ b) = if fstI p a ≠ -1 then fstI p a else if fstI p b ≠ -1 then a.length + fstI p b else -1 := by
  unfold fstI
  rw [List.findIdx?_append]
  cases ha : a.findIdx? (fun m => !p m) with
  | some i => simp <;> omega
  | none =>
    cases hb : b.findIdx? (fun m => !p m) with
    | some i => simp <;> omega
    | none => simp
def plcs {α : Type} (p : α → Bool) (l : List α) : List Nat := (l.zipIdx.filter fun x => p x.1).map (·.2)
theorem plcs_snoc {α : Type} (p : α → Bool) (a : List α) (x : α) : plcs p (a ++ [x]) = plcs p a ++ if p x then [a.length] else [] := by
  unfold plcs
  rw [List.zipIdx_append, List.filter_append, List.map_append]
  cases h : p x <;> simp [h]
theorem plcs_len {α : Type} (p : α → Bool) (l : List α) : (plcs p l).length = l.countP p := by
  unfold plcs
  rw [List.length_map, ← List.countP_eq_length_filter]
  have : l = l.zipIdx.map (·.1) := by simp
  conv => rhs; rw [this]
  rw [List.countP_map]; rfl
theorem plcs_le {α : Type} (p : α → Bool) (l : List α) : (plcs p l).length ≤ l.length := by rw [plcs_len]; exact List.countP_le_length
theorem plcs_cut {α : Type} (p : α → Bool) (l : List α) (k : Nat) : (plcs p l).length = (plcs p (l.take k)).length + (plcs p (l.drop k)).length := by
  rw [plcs_len, plcs_len, plcs_len, ← List.countP_append, List.take_append_drop]
end Go.Con
namespace Go.Proofs.YtncmgiddcefpcaaGreatDoor
open Go Go.Ev Go.Con
set_option linter.unusedSimpArgs false
set_option linter.unusedVariables false
set_option maxRecDepth 100000
def fallB (m : Mk) : Bool := decide (m.after < m.before) && (m.kind != 4)
def ints (l : List Nat) : List Value := l.map fun k : Nat => .int .i64 (k : Int)
theorem ints_len (l : List Nat) : (ints l).length = l.length := by simp [ints]
theorem ints_sl {h : Hp} {v : Value} {l : List Nat} (s : SlAt h 1 v (ints l)) : evLen kon.P 77 v = some (.int .i64 l.length) := by
  rcases s with ⟨rfl, hl⟩ | ⟨b, o, k, c, all, rfl, h2, h3, h4, h5, h6⟩
  · have : (ints l).length = 0 := by rw [hl]; rfl
    rw [ints_len] at this
    rw [this]; exact evLen_slice (e := 3) (by kernel_rfl)
  · rw [ints_len] at h5
    have : k = l.length := by omega
    subst this
    exact evLen_slice (e := 3) (by kernel_rfl)
theorem app_int {h0 : Nat} {h : Hp} {v : Value} {l : List Nat} (g : Fresh h0 h v 3 1 (ints l)) (hh : h0 ≤ h.next) (hl : l.length ≤ 1000000000) (i : Nat) :
    ∃ v' h', evAppend kon.P 77 v (.slice (some ⟨h.next, 0, none⟩) 1 2) (h.push (.row [.int .i64 (i : Int)] 3 (.rw 0 []))) = some (v', h') ∧ Fresh h0 h' v' 3 1 (ints (l ++ [i])) ∧ h.next ≤ h'.next ∧ ∀ c, c < h0 → h'.get c = h.get c := by
  have k1 : Keep h (h.push (.row [.int .i64 (i : Int)] 3 (.rw 0 []))) := Keep.push _ _
  have hc : evCells 1 1 (.slice (some ⟨h.next, 0, none⟩) 1 2) (h.push (.row [.int .i64 (i : Int)] 3 (.rw 0 []))) = some [.int .i64 (i : Int)] := by
    show (bif 1 * 1 == 0 then some [] else (rowOf _ h.next).bind fun cs => bif decide (0 + 1 * 1 ≤ cs.length) then some ((cs.drop 0).take (1 * 1)) else none) = _
    rw [rowOf_rw (Hp.get_push_self _ _)]; rfl
  obtain ⟨v', h', a, b, c, d⟩ := append_fr (t := 77) (e := 3) (n := 1) (by_ := 8) (z := .int .i64 0) (P := kon.P) (by kernel_rfl) (by kernel_rfl) (by kernel_rfl) (by kernel_rfl) (by kernel_rfl) (Nat.le_refl _) (g.keeps k1) (Nat.le_trans hh k1.1)
    (x := .slice (some ⟨h.next, 0, none⟩) 1 2) (j := 1) rfl hc rfl rfl (by rw [ints_len]; exact Nat.le_trans (Nat.mul_le_mul_right 9 (show _ ≤ 2000001026 by omega)) (by decide))
  refine ⟨v', h', a, ?_, Nat.le_trans k1.1 c, fun k hk => (d k hk).trans (k1.2 k (by omega))⟩
  have : ints (l ++ [i]) = ints l ++ [.int .i64 (i : Int)] := by simp [ints]
  rw [this]; exact b
set_option maxHeartbeats 2000000 in
theorem falls_spec {h : Hp} {v : Value} {l : List Mk} (s : MkSl h v l) (hl : l.length ≤ 1000000000) : Meets kon 37 [v] h fun u h' => Keep h h' ∧ Fresh h.next h' u 3 1 (ints (plcs fallB l)) := by
  have ll := MkSl.len s
  refine Meets.mk rfl (by kernel_rfl) Tryz.func37 rfl (congrArg Array.toList Tryz.results37) ?_
  repeat' (first | simp only [evr, nextP_norm, evd, evq, beq_self_eq_true, cond_true, cond_false, reduceIte, Nat.reduceEqDiff, Nat.reduceAdd, Int.reduceBNe, Int.reduceBEq, Int.reduceLT, Int.reduceLE, Int.reduceEq, evh, evp, Nat.reduceLeDiff, Nat.reduceSub, Nat.reduceBEq, typs, ll] | refine kCond2_by (fun hc => ?_) (fun hc => ?_) <;> try simp only [hc] | refine kPick_by (fun hc => ?_) (fun hc => ?_) <;> try simp only [hc] | refine kWant_by (fun hc => ?_) (fun hc => ?_) <;> try simp only [hc])
  refine Wp_loop (fun k fr h' => Keep h h' ∧ ∃ (i : Nat) (u : Value), k = l.length - i ∧ i ≤ l.length ∧ fr.get 3 = some u ∧ fr.get 6 = some v ∧ fr.get 7 = some (.int .i64 l.length) ∧ fr.get 8 = some (.int .i64 i) ∧ Fresh h.next h' u 3 1 (ints (plcs fallB (l.take i)))) l.length ⟨Keep.refl _, 0, .slice none 0 0, rfl, Nat.zero_le _, ?_, ?_, ?_, ?_, ?_⟩ ?_
  · repeat' (first | simp only [evr, nextP_norm, evd, evq, beq_self_eq_true, cond_true, cond_false, reduceIte, Nat.reduceEqDiff, Nat.reduceAdd, Int.reduceBNe, Int.reduceBEq, Int.reduceLT, Int.reduceLE, Int.reduceEq, evh, evp, Nat.reduceLeDiff, Nat.reduceSub, Nat.reduceBEq, typs] | refine kCond2_by (fun hc => ?_) (fun hc => ?_) <;> try simp only [hc] | refine kPick_by (fun hc => ?_) (fun hc => ?_) <;> try simp only [hc] | refine kWant_by (fun hc => ?_) (fun hc => ?_) <;> try simp only [hc])
  · repeat' (first | simp only [evr, nextP_norm, evd, evq, beq_self_eq_true, cond_true, cond_false, reduceIte, Nat.reduceEqDiff, Nat.reduceAdd, Int.reduceBNe, Int.reduceBEq, Int.reduceLT, Int.reduceLE, Int.reduceEq, evh, evp, Nat.reduceLeDiff, Nat.reduceSub, Nat.reduceBEq, typs] | refine kCond2_by (fun hc => ?_) (fun hc => ?_) <;> try simp only [hc] | refine kPick_by (fun hc => ?_) (fun hc => ?_) <;> try simp only [hc] | refine kWant_by (fun hc => ?_) (fun hc => ?_) <;> try simp only [hc])
  · repeat' (first | simp only [evr, nextP_norm, evd, evq, beq_self_eq_true, cond_true, cond_false, reduceIte, Nat.reduceEqDiff, Nat.reduceAdd, Int.reduceBNe, Int.reduceBEq, Int.reduceLT, Int.reduceLE, Int.reduceEq, evh, evp, Nat.reduceLeDiff, Nat.reduceSub, Nat.reduceBEq, typs] | refine kCond2_by (fun hc => ?_) (fun hc => ?_) <;> try simp only [hc] | refine kPick_by (fun hc => ?_) (fun hc => ?_) <;> try simp only [hc] | refine kWant_by (fun hc => ?_) (fun hc => ?_) <;> try simp only [hc])
  · repeat' (first | simp only [evr, nextP_norm, evd, evq, beq_self_eq_true, cond_true, cond_false, reduceIte, Nat.reduceEqDiff, Nat.reduceAdd, Int.reduceBNe, Int.reduceBEq, Int.reduceLT, Int.reduceLE, Int.reduceEq, evh, evp, Nat.reduceLeDiff, Nat.reduceSub, Nat.reduceBEq, typs] | refine kCond2_by (fun hc => ?_) (fun hc => ?_) <;> try simp only [hc] | refine kPick_by (fun hc => ?_) (fun hc => ?_) <;> try simp only [hc] | refine kWant_by (fun hc => ?_) (fun hc => ?_) <;> try simp only [hc])
    rfl
  · exact Fresh.nil h.next h 3 1
  rintro k fr H ⟨K, i, u, rfl, hi, r3, r6, r7, r8, g⟩
  by_cases h3 : i < l.length
  · have e3 : decide ((i : Int) < l.length) = true := by simp; omega
    obtain ⟨b, o, all, hia, hr, hz, hc⟩ := MkSl.at (SlAt.keep s K) (List.getElem?_eq_getElem h3)
    have hld : evLoad kon.P 60 (.pointer (some ⟨b, o, none⟩)) H = some (.agg #[.int .i64 l[i].proc, .int .i64 l[i].kind, .int .i64 l[i].uid, .int .i64 l[i].off, .int .i64 l[i].at_, .int .i64 l[i].before, .int .i64 l[i].after]) := by
      rw [L_loadA (C := kon) (t := 60) (n := 7) (by kernel_rfl) (by kernel_rfl), hr, Option.bind_some, aggAt_eq (of_decide_eq_true hz), hc]
    have wi : IntKind.i64.wrap ((i : Int) + 1) = ((i + 1 : Nat) : Int) := by rw [wrap64 (by omega) (by omega)]; omega
    have hn := K.1
    have tk : l.take (i + 1) = l.take i ++ [l[i]] := (List.take_append_getElem h3).symm
    have tl : (l.take i).length = i := by rw [List.length_take]; omega
    repeat' (first | simp only [evr, nextP_norm, evd, evq, beq_self_eq_true, cond_true, cond_false, reduceIte, Nat.reduceEqDiff, Nat.reduceAdd, Int.reduceBNe, Int.reduceBEq, Int.reduceLT, Int.reduceLE, Int.reduceEq, evh, evp, Nat.reduceLeDiff, Nat.reduceSub, Nat.reduceBEq, typs, r3, r6, r7, r8, e3, hia] | refine kCond2_by (fun hc => ?_) (fun hc => ?_) <;> try simp only [hc] | refine kPick_by (fun hc => ?_) (fun hc => ?_) <;> try simp only [hc] | refine kWant_by (fun hc => ?_) (fun hc => ?_) <;> try simp only [hc])
    simp only [evr, evd, evq, beq_self_eq_true, cond_true, cond_false, reduceIte, Nat.reduceEqDiff, Nat.reduceAdd, Int.reduceBNe, Int.reduceBEq, Int.reduceLT, Int.reduceLE, Int.reduceEq, evh, evp, Nat.reduceLeDiff, Nat.reduceSub, Nat.reduceBEq, typs, hr, hz, hc]
    rw [nextP_norm]
    generalize hh : Hp.set _ _ _ = H1
    have k1 : Keep H H1 := by rw [← hh]; exact (Keep.push _ _).set (Nat.le_refl _)
    have n1 : H1.next = H.next + 1 := by rw [← hh]; rfl
    have q1 : rowOf H1 H.next = some [.int .i64 l[i].proc, .int .i64 l[i].kind, .int .i64 l[i].uid, .int .i64 l[i].off, .int .i64 l[i].at_, .int .i64 l[i].before, .int .i64 l[i].after] := by rw [← hh]; exact rowOf_rw (Hp.get_set_self _ _ _)
    clear hh
    have K1 := K.trans k1
    have g1 := g.keeps k1
    have no : fallB l[i] = false → plcs fallB (l.take (i + 1)) = plcs fallB (l.take i) := fun e => by rw [tk, plcs_snoc, e]; simp
    by_cases ha : l[i].after < l[i].before
    · have f1 : decide (l[i].after < l[i].before) = true := decide_eq_true ha
      by_cases hb : l[i].kind = 4
      · have f2 : (l[i].kind != 4) = false := by simp [hb]
        repeat' (first | simp only [evr, nextP_norm, evd, evq, beq_self_eq_true, cond_true, cond_false, reduceIte, Nat.reduceEqDiff, Nat.reduceAdd, Int.reduceBNe, Int.reduceBEq, Int.reduceLT, Int.reduceLE, Int.reduceEq, evh, evp, Nat.reduceLeDiff, Nat.reduceSub, Nat.reduceBEq, typs, r3, r6, r7, r8, q1, f1, f2, wi] | refine kCond2_by (fun hc => ?_) (fun hc => ?_) <;> try simp only [hc] | refine kPick_by (fun hc => ?_) (fun hc => ?_) <;> try simp only [hc] | refine kWant_by (fun hc => ?_) (fun hc => ?_) <;> try simp only [hc])
        exact ⟨l.length - (i + 1), by omega, K1, i + 1, u, rfl, by omega, rfl, rfl, by rw [no (by unfold fallB; rw [f1, f2]; rfl)]; exact g1⟩
      · have f2 : (l[i].kind != 4) = true := by simp [hb]
        obtain ⟨u', h', ea, g', n', s'⟩ := app_int g1 (by omega) (by have := plcs_le fallB (l.take i); omega) i
        repeat' (first | simp only [evr, nextP_norm, evd, evq, beq_self_eq_true, cond_true, cond_false, reduceIte, Nat.reduceEqDiff, Nat.reduceAdd, Int.reduceBNe, Int.reduceBEq, Int.reduceLT, Int.reduceLE, Int.reduceEq, evh, evp, Nat.reduceLeDiff, Nat.reduceSub, Nat.reduceBEq, typs, r3, r6, r7, r8, q1, f1, f2, wi, ea] | refine kCond2_by (fun hc => ?_) (fun hc => ?_) <;> try simp only [hc] | refine kPick_by (fun hc => ?_) (fun hc => ?_) <;> try simp only [hc] | refine kWant_by (fun hc => ?_) (fun hc => ?_) <;> try simp only [hc])
        refine ⟨l.length - (i + 1), by omega, ⟨by omega, fun k hk => (s' k hk).trans (K1.2 k hk)⟩, i + 1, u', rfl, by omega, rfl, rfl, ?_⟩
        rw [tk, plcs_snoc, tl, show fallB l[i] = true by unfold fallB; rw [f1, f2]; rfl]
        exact g'
    · have f1 : decide (l[i].after < l[i].before) = false := decide_eq_false ha
      repeat' (first | simp only [evr, nextP_norm, evd, evq, beq_self_eq_true, cond_true, cond_false, reduceIte, Nat.reduceEqDiff, Nat.reduceAdd, Int.reduceBNe, Int.reduceBEq, Int.reduceLT, Int.reduceLE, Int.reduceEq, evh, evp, Nat.reduceLeDiff, Nat.reduceSub, Nat.reduceBEq, typs, r3, r6, r7, r8, q1, f1, wi] | refine kCond2_by (fun hc => ?_) (fun hc => ?_) <;> try simp only [hc] | refine kPick_by (fun hc => ?_) (fun hc => ?_) <;> try simp only [hc] | refine kWant_by (fun hc => ?_) (fun hc => ?_) <;> try simp only [hc])
      exact ⟨l.length - (i + 1), by omega, K1, i + 1, u, rfl, by omega, rfl, rfl, by rw [no (by unfold fallB; rw [f1]; rfl)]; exact g1⟩
  · have e3 : decide ((i : Int) < l.length) = false := by simp; omega
    repeat' (first | simp only [evr, nextP_norm, evd, evq, beq_self_eq_true, cond_true, cond_false, reduceIte, Nat.reduceEqDiff, Nat.reduceAdd, Int.reduceBNe, Int.reduceBEq, Int.reduceLT, Int.reduceLE, Int.reduceEq, evh, evp, Nat.reduceLeDiff, Nat.reduceSub, Nat.reduceBEq, typs, r3, r6, r7, r8, e3] | refine kCond2_by (fun hc => ?_) (fun hc => ?_) <;> try simp only [hc] | refine kPick_by (fun hc => ?_) (fun hc => ?_) <;> try simp only [hc] | refine kWant_by (fun hc => ?_) (fun hc => ?_) <;> try simp only [hc])
    rw [List.take_of_length_le (by omega)] at g
    exact ⟨K, g⟩
end Go.Proofs.YtncmgiddcefpcaaGreatDoor
namespace Go.Proofs.YtncmgiddcefpcaaGreatDoor
open Go Go.Ev Go.Con
set_option linter.unusedSimpArgs false
set_option linter.unusedVariables false
set_option maxRecDepth 100000
end Go.Proofs.YtncmgiddcefpcaaGreatDoor
namespace Go.Proofs.YtncmgiddcefpcaaGreatDoor
open Go Go.Ev Go.Con
set_option linter.unusedSimpArgs false
set_option linter.unusedVariables false
set_option maxRecDepth 100000
theorem TreeAt.hac {h : Hp} {F : Nat → Prop} {T : Hi} {bt : Nat} (t : TreeAt h F T bt) (u : Int) (b : Bn) (hb : T.byUID u = some b) : b.acl.length ≤ 1000000000 := by
  obtain ⟨_, _, _, _, t⟩ := t
  unfold Hi.byUID at hb
  obtain ⟨i, _, rfl⟩ := Option.map_eq_some_iff.1 hb
  exact t.acl i
end Go.Proofs.YtncmgiddcefpcaaGreatDoor
namespace Go.Proofs.YtncmgiddcefpcaaGreatDoor
open Go Go.Ev Go.RowKit Go.Sort Go.Proofs
set_option linter.unusedSimpArgs false
set_option linter.unusedVariables false
set_option maxRecDepth 100000
theorem nan_walk (x : ByteArray) (w : World) : Calls Tryz.prog 113 #[.string x] w fun e w' => e = .returned (.bool false) ∧ w' = w := by
  go_enter Tryz.func113, Tryz.ntmps113
  go_wp2
  all_goals go_ret
  all_goals exact ⟨by simp, rfl⟩
theorem cb_cases : ∀ x y : List UInt8, (Lib.compareBytes x y = -1 ∧ x ≠ y) ∨ (Lib.compareBytes x y = 0 ∧ x = y) ∨ (Lib.compareBytes x y = 1 ∧ x ≠ y)
  | [], [] => by simp [Lib.compareBytes]
  | [], b :: y => by simp [Lib.compareBytes]
  | a :: x, [] => by simp [Lib.compareBytes]
  | a :: x, b :: y => by
    unfold Lib.compareBytes
    by_cases h1 : a < b
    · have : a ≠ b := by rintro rfl; exact absurd h1 (UInt8.lt_irrefl a)
      simp [h1, this]
    · by_cases h2 : b < a
      · have : a ≠ b := by rintro rfl; exact h1 h2
        simp [h1, h2, this]
      · have : a = b := UInt8.le_antisymm (UInt8.not_lt.1 h2) (UInt8.not_lt.1 h1)
        subst this
        simpa [h1] using cb_cases x y
theorem cmp_walk (x y : ByteArray) (w : World) : Calls Tryz.prog 102 #[.string x, .string y] w fun e w' => e = .returned (.int .i64 (Lib.compareBytes x.data.toList y.data.toList)) ∧ w' = w := by
  have hb : ∀ a b : ByteArray, Op.bytesLess a.toList b.toList = decide (Lib.compareBytes a.data.toList b.data.toList < 0) := fun a b => by
    rw [ByteArray.toList_eq, ByteArray.toList_eq, bytesLess_lt, Bool.eq_iff_iff]; simp [Go.Con.cmp_lt]
  go_enter Tryz.func102, Tryz.ntmps102
  go_wp2_with (go_at_call 113; refine (nan_walk _ _).mono ?_; rintro e w' ⟨rfl, hw⟩; rw [hw])
  all_goals go_ret
  all_goals refine ⟨?_, rfl⟩
  all_goals rcases cb_cases x.data.toList y.data.toList with ⟨h, e⟩ | ⟨h, e⟩ | ⟨h, e⟩
  all_goals simp_all [ByteArray.toList_eq]
theorem clos_walk (x y : ByteArray) (w : World) : Calls Tryz.prog 101 #[.string x, .string y] w fun e w' => e = .returned (.int .i64 (Lib.compareBytes x.data.toList y.data.toList)) ∧ w' = w := by
  have hcon := cmp_walk x y w
  generalize Lib.compareBytes x.data.toList y.data.toList = r at hcon ⊢
  go_enter Tryz.func101, Tryz.ntmps101
  go_wp2_with (go_at_call 102; refine hcon.mono ?_; rintro e w' ⟨rfl, rfl⟩)
  go_ret
  exact ⟨rfl, rfl⟩
section
variable {P : Program} (w : World) {ops : Array Oper} {rest : List Oper} {o : Oper} {a : Act} {Q : Exit → Act → World → Prop}
theorem wl_range (hg : o.guard = none) (m : Operand) (t k e : TypeId) (hop : o.op = Op.range t m) (ht : P.underlying t = some (.map k e)) (b : Nat) (es : Array MapEntry) (ck : Nat) (hm : a.eval m = .map (some b)) (hb : w.heap[b]? = some (.map es ck))
    (hK : wpList P ops Q rest (a.put o.dst (.pointer (some ⟨w.heap.size, 0, none⟩))) (w.alloc (.mapIter (some b) ck #[] ck))) : wpList P ops Q (o :: rest) a w := by
  refine wpList_plain hg fun K' hK' => ?_
  unfold Oper.wp
  simp [execOp, hop, hm, run_range_map w t k e b es ck ht hb, Result.andThen]
  exact hK' _ _ hK
def Drawn (w w1 : World) : Prop := w1 = w ∨ w1 = w.drew
theorem wl_next (hg : o.guard = none) (it : Operand) (hop : o.op = Op.next it false) (r b since c0 : Nat) (seen : Array Nat) (es : Array MapEntry) (ck : Nat) (hit : a.eval it = .pointer (some ⟨r, 0, none⟩))
    (hr : w.heap[r]? = some (.mapIter (some b) since seen c0)) (hb : w.heap[b]? = some (.map es ck)) (hold : ∀ x ∈ es.toList, x.born < since) (hsc : since ≤ c0)
    (hDone : (leftOf es seen).size = 0 → wpList P ops Q rest (a.put o.dst (.tuple #[.bool false])) w)
    (hMore : ∀ e ∈ (leftOf es seen).toList, ∀ w1 : World, Drawn w w1 → wpList P ops Q rest (a.put o.dst (.tuple #[.bool true, e.key, e.val])) (Go.ChangeMaps.setBlock w1 r (.mapIter (some b) since (seen.push e.born) ck))) :
    wpList P ops Q (o :: rest) a w := by
  refine wpList_plain hg fun K' hK' => ?_
  unfold Oper.wp
  rcases run_next_at (P := P) w o.type r b since c0 seen es ck hr hb hold hsc with ⟨h0, hrun⟩ | ⟨e, he, w1, h1, hrun⟩
  · simp [execOp, hop, hit, hrun, Result.andThen]
    exact hK' _ _ (hDone h0)
  · simp [execOp, hop, hit, hrun, Result.andThen]
    exact hK' _ _ (hMore e he w1 h1)
end
def nameOf (d : Int) (e : MapEntry) : Option (List UInt8) := match keyName d e.key with
  | some (some s) => some s
  | _ => none
theorem namesE_spec {d : Int} : ∀ {es : List MapEntry} {ns : List (List UInt8)}, namesE d es = some ns → ns = es.filterMap (nameOf d) ∧ ∀ e ∈ es, ∃ x s, e.key = .agg #[.int .i64 x, .string s]
  | [], ns, h => by cases h; exact ⟨rfl, by simp⟩
  | e :: es, ns, h => by
    unfold namesE at h
    have hk : ∀ o, keyName d e.key = some o → ∃ x s, e.key = .agg #[.int .i64 x, .string s] := fun o ho => by
      unfold keyName at ho
      split at ho
      · rename_i cs hcs
        split at ho
        · rename_i x s hl
          refine ⟨x, s, ?_⟩
          rw [hcs]
          congr 1
          cases cs; simp at hl; rw [hl]
        · cases ho
      · cases ho
    cases hn : keyName d e.key with
    | none => rw [hn] at h; cases h
    | some o =>
      rw [hn] at h
      cases o with
      | none =>
        obtain ⟨h1, h2⟩ := namesE_spec h
        refine ⟨by rw [List.filterMap_cons, nameOf, hn]; exact h1, fun x hx => ?_⟩
        rcases List.mem_cons.1 hx with rfl | hx
        · exact hk _ hn
        · exact h2 x hx
      | some s =>
        obtain ⟨l, hl, rfl⟩ := Option.map_eq_some_iff.1 h
        obtain ⟨h1, h2⟩ := namesE_spec hl
        refine ⟨by rw [List.filterMap_cons, nameOf, hn]; simp only; rw [h1], fun x hx => ?_⟩
        rcases List.mem_cons.1 hx with rfl | hx
        · exact hk _ hn
        · exact h2 x hx
theorem nameOf_key {d : Int} {e : MapEntry} {x : Int} {s : ByteArray} (h : e.key = .agg #[.int .i64 x, .string s]) : nameOf d e = if x = d then some s.data.toList else none := by
  unfold nameOf keyName
  rw [h]
  by_cases hx : x = d <;> simp [hx]
theorem left_none {es : Array MapEntry} {seen : Array Nat} (h : (leftOf es seen).size = 0) : ∀ e ∈ es.toList, e.born ∈ seen.toList := fun e he => by
  refine Decidable.byContradiction fun hn => ?_
  have hm : e ∈ (leftOf es seen).toList := by
    unfold leftOf
    simp only [Array.toList_filter, List.mem_filter]
    exact ⟨he, by simpa using hn⟩
  have : (leftOf es seen).toList.length = 0 := by rw [Array.length_toList]; exact h
  rw [List.length_eq_zero_iff.1 this] at hm
  cases hm
theorem left_mem {es : Array MapEntry} {seen : Array Nat} {e : MapEntry} (h : e ∈ (leftOf es seen).toList) : e ∈ es.toList ∧ e.born ∉ seen.toList := by
  unfold leftOf at h
  simp only [Array.toList_filter, List.mem_filter] at h
  exact ⟨h.1, by simpa using h.2⟩
theorem left_less {es : Array MapEntry} {seen : Array Nat} {e : MapEntry} (h : e ∈ (leftOf es seen).toList) : (leftOf es (seen.push e.born)).size < (leftOf es seen).size := by
  rw [← Array.length_toList, ← Array.length_toList]
  obtain ⟨h1, h2⟩ := left_mem h
  unfold leftOf at h ⊢
  rw [Array.toList_filter, Array.toList_filter] at *
  have e1 : (es.toList.filter fun x => !(seen.push e.born).contains x.born) = (es.toList.filter fun x => !seen.contains x.born).filter fun x => !(x.born == e.born) := by
    rw [List.filter_filter]
    apply List.filter_congr
    intro x _
    rw [Bool.eq_iff_iff]
    simp [Array.mem_push, and_comm]
  rw [e1]
  exact List.length_filter_lt_length_iff_exists.2 ⟨e, h, by simp⟩
def leftW (es : Array MapEntry) (r : Nat) (w : World) : Nat := match w.heap[r]? with
  | some (.mapIter _ _ seen _) => (leftOf es seen).size
  | _ => 0
theorem collected_perm {es : List MapEntry} {el : List MapEntry} (hes : (es.map (·.born)).Nodup) (hel : (el.map (·.born)).Nodup) (hsub : ∀ e ∈ el, e ∈ es) (hall : ∀ e ∈ es, e.born ∈ el.map (·.born)) : el.Perm es := by
  have n1 : el.Nodup := by
    refine List.Pairwise.imp ?_ (List.pairwise_map.1 hel)
    intro a b h e
    exact h (by rw [e])
  have n2 : es.Nodup := by
    refine List.Pairwise.imp ?_ (List.pairwise_map.1 hes)
    intro a b h e
    exact h (by rw [e])
  refine (List.perm_ext_iff_of_nodup n1 n2).2 fun a => ⟨hsub a, fun ha => ?_⟩
  obtain ⟨b, hb, hab⟩ := List.mem_map.1 (hall a ha)
  have := Go.Con.Hi.nodup_inj hes (hsub b hb) ha hab
  rw [← this]; exact hb
def SortedW (w : World) (blk : Nat) (ts : List (List UInt8)) (w' : World) : Prop := ∃ n os, w' = grow (putRow encStr (Sort.ahead w n) blk 0 ts.toArray) os
def SortOK : Prop := ∀ (blk cap : Nat) (ss : List (List UInt8)) (w : World) (cur : Array Value), w.heap[blk]? = some (.cells cur 9 (0, 0)) → cur.toList.take ss.length = ss.map encStr → ss.length ≤ cap → ss.length < 4611686018427387904 →
  Calls Tryz.prog 100 #[.slice (some ⟨blk, 0, none⟩) ss.length cap, .func (.func 101) #[] #[]] w fun e w' => e = .returned (.tuple #[]) ∧ SortedW w blk (sortB ss) w'
def SortNil : Prop := ∀ (w : World), Calls Tryz.prog 100 #[.slice none 0 0, .func (.func 101) #[] #[]] w fun e w' => e = .returned (.tuple #[]) ∧ Below w.heap.size w w'
set_option maxHeartbeats 400000 in
theorem names_walk (HS : SortOK) (HN : SortNil) : NamesOK Tryz.prog 73 9 := by
  intro tb bm es ck d ns w hcell hb hnd hborn hsz hns
  obtain ⟨hns, hkey⟩ := namesE_spec hns
  obtain ⟨i0, hi, hz0, hz1, hz2⟩ := info_parts (P := Tryz.prog) (e := 9) (z := .string ⟨#[]⟩) (size := 1) (bytes := 16) (by kernel_rfl)
  have hbl : bm < w.heap.size := (Array.getElem?_eq_some_iff.1 hb).1
  go_enter Tryz.func73, Tryz.ntmps73
  go_wp2_with (first
    | (at_range; refine wl_range _ rfl _ _ _ _ rfl Tryz.underlying88 bm es ck rfl hb ?_)
    | go_in)
  go_frame
  go_loopw [5] (fun v wr => ∃ (el : List MapEntry) (seen : Array Nat) (c0 : Nat), wr.heap[w.heap.size]? = some (.mapIter (some bm) ck seen c0) ∧ ck ≤ c0 ∧ seen.toList = el.map (·.born) ∧ (el.map (·.born)).Nodup ∧ (∀ e ∈ el, e ∈ es.toList) ∧
      wr.heap[bm]? = some (.map es ck) ∧ el.length + (leftOf es seen).size ≤ es.size ∧ wr.ownsRow (w.heap.size + 1) 9 1 v (el.filterMap (nameOf d)).length ((el.filterMap (nameOf d)).map encStr) ∧ ((el.filterMap (nameOf d)).length = 0 → v = .slice none 0 0) ∧ Below w.heap.size w wr)
    (fun _ wr => leftW es w.heap.size wr)
  case atStart =>
    refine ⟨[], #[], ck, by show (w.heap.push _)[w.heap.size]? = _; simp, Nat.le_refl _, rfl, by simp, by simp, ?_, ?_, ⟨rfl, .inl ⟨rfl, rfl⟩⟩, fun _ => rfl, (Below.refl _ _).alloc (Nat.le_refl _) _⟩
    · rw [Below.heap_alloc _ _ _ hbl]; exact hb
    · unfold leftOf; simp; exact Array.size_filter_le
  case round =>
    obtain ⟨el, seen, c0, hr, hc0, hseen, hel, hsub, hb1, hlen, hrow, hvn, hbel⟩ := hrel
    go_wp2_with (first
      | (at_next; refine wl_next _ rfl _ rfl w.heap.size bm ck c0 seen es ck rfl hr hb1 hborn hc0 ?_ ?_)
      | go_in)
    · intro h0
      have h1 := left_none (es := es) (seen := seen) (by rw [h0]; rfl)
      rw [hseen] at h1
      have hperm := (collected_perm hnd hel hsub h1).filterMap (nameOf d)
      rw [← hns] at hperm
      have hnl : (el.filterMap (nameOf d)).length = ns.length := hperm.length_eq
      have hsort : sortB (el.filterMap (nameOf d)) = sortB ns := sortB_uniq ((sortB_perm _).trans hperm) (sortB_sorted _)
      have hsl : (sortB ns).length = ns.length := (sortB_perm ns).length_eq
      have hell : (el.filterMap (nameOf d)).length ≤ el.length := List.length_filterMap_le _ _
      generalize el.filterMap (nameOf d) = ss at hrow hperm hnl hsort hell hvn
      rcases hrow.2 with ⟨rfl, hn0⟩ | ⟨g, cap, cur, rfl, hbase, hb, k1, k2, k3, k4⟩
      · have hnil : ns = [] := List.length_eq_zero_iff.1 (by omega)
        have hc := HN wr
        go_wp2_with (go_at_call 100; refine hc.mono ?_; rintro e w' ⟨rfl, hbw⟩)
        go_ret
        exact ⟨hbel.trans (hbw.mono hbel.size), .inl ⟨hnil, rfl⟩⟩
      · have hc := HS g cap ss wr cur hb (by simpa using k4) k1 (by omega)
        rw [hsort] at hc
        have pk : Nonempty (PLift (ss.length = ns.length ∧ (sortB ns).length = ns.length ∧ cur.size = cap * 1 ∧ cur.toList.take (ss.length * 1) = ss.map encStr ∧ wr.heap[g]? = some (.cells cur 9 (0, 0)))) := ⟨⟨hnl, hsl, k3, k4, hb⟩⟩
        clear hns hnl hsl k3 k4 hsort hseen hb h0
        go_wp2_with (go_at_call 100; refine hc.mono ?_; rintro e w' ⟨rfl, hw'⟩)
        go_ret
        obtain ⟨nn, os, rfl⟩ := hw'
        obtain ⟨⟨hnl, hsl, k3, k4, hb⟩⟩ := pk
        have hfin := hbel.grown (grownBy_sorted (w := wr) (g := g) (n := nn) (os := os) (sortB ns).toArray) hbel.size (fun j hj => by cases hj; omega)
        refine ⟨hfin, ?_⟩
        have hheap := heap_sorted (n := nn) (os := os) (sortB ns).toArray hb
        by_cases hnz : ns = []
        · have := hvn (by rw [hnl, hnz]; rfl)
          cases this
        · refine .inr ⟨g, cap, _, by rw [← hnl]; rfl, hnz, by omega, by omega, hheap, by simp [putCells]; omega, ?_⟩
          have := take_putCells cur (sortB ns) (by omega)
          rw [hsl] at this
          exact this
    · intro e he w1 hw1
      have he := Array.mem_toList_iff.2 he
      obtain ⟨he1, he2⟩ := left_mem he
      obtain ⟨x, nm, hk⟩ := hkey e he1
      have hnm := nameOf_key (d := d) hk
      have hless := left_less he
      rw [hk]
      have hh : w1.heap = wr.heap := by rcases hw1 with rfl | rfl <;> rfl
      have hrl : w.heap.size < wr.heap.size := (Array.getElem?_eq_some_iff.1 hr).1
      have hr2 : (Go.ChangeMaps.setBlock w1 w.heap.size (.mapIter (some bm) ck (seen.push e.born) ck)).heap[w.heap.size]? = some (.mapIter (some bm) ck (seen.push e.born) ck) := by
        simp [Go.ChangeMaps.setBlock, hh, hrl]
      have hg12 : wr.grownBy (Go.ChangeMaps.setBlock w1 w.heap.size (.mapIter (some bm) ck (seen.push e.born) ck)) (some w.heap.size) := by
        refine ⟨by rcases hw1 with rfl | rfl <;> rfl, by rcases hw1 with rfl | rfl <;> rfl, by rcases hw1 with rfl | rfl <;> rfl, by simp [Go.ChangeMaps.setBlock, hh], fun k hk hne => ?_⟩
        have : w.heap.size ≠ k := fun e => hne (by rw [e])
        simp [Go.ChangeMaps.setBlock, hh, this]
      have hb2 := (hg12.block bm (by have := (Array.getElem?_eq_some_iff.1 hb1).1; exact this) (by simp; omega)).trans hb1
      have hen := run_entry_at (P := Tryz.prog) _ w.heap.size bm ck seen es ck e hr2 hb2 he1 hnd
      rw [hk] at hen
      have hbel2 := hbel.grown hg12 hbel.size (fun k e => by cases e; exact Nat.le_refl _)
      have hrow2 := hrow.kept hg12 (by
        rcases hrow.2 with ⟨rfl, _⟩ | ⟨g, cap, cur, rfl, hbase, _⟩
        · exact .inl rfl
        · right; simp [Value.ownBlock]; omega)
      have hlw : ∀ w' : World, w'.heap[w.heap.size]? = some (.mapIter (some bm) ck (seen.push e.born) ck) → leftW es w.heap.size w' < leftW es w.heap.size wr := fun w' h' => by
        unfold leftW; rw [h', hr]; exact hless
      have hcol : (seen.push e.born).toList = (el ++ [e]).map (·.born) := by simp [hseen]
      have hel2 : ((el ++ [e]).map (·.born)).Nodup := by
        rw [List.map_append, List.nodup_append]
        refine ⟨hel, by simp, fun a ha b hb => ?_⟩
        simp at hb
        subst hb
        rintro rfl
        rw [hseen] at he2
        exact he2 ha
      have hsub2 : ∀ y ∈ el ++ [e], y ∈ es.toList := fun y hy => by
        rcases List.mem_append.1 hy with hy | hy
        · exact hsub y hy
        · simp at hy; subst hy; exact he1
      have hlen2 : (el ++ [e]).length + (leftOf es (seen.push e.born)).size ≤ es.size := by rw [List.length_append, List.length_singleton]; omega
      have hell : (el.filterMap (nameOf d)).length ≤ el.length := List.length_filterMap_le _ _
      generalize Go.ChangeMaps.setBlock w1 w.heap.size (.mapIter (some bm) ck (seen.push e.born) ck) = w2 at hr2 hb2 hen hbel2 hrow2 ⊢
      have hrow3 := (hrow2.alloc (.cells #[.int .i64 x, .string nm] 149)).alloc (.cells #[.string nm] 9)
      have hsz2 := hbel2.size
      have hrl2 : w.heap.size < w2.heap.size := (Array.getElem?_eq_some_iff.1 hr2).1
      have hbl2 : bm < w2.heap.size := (Array.getElem?_eq_some_iff.1 hb2).1
      have hnew : ∀ (j : Nat) u, [Value.string nm][j]? = some u → ((w2.alloc (.cells #[.int .i64 x, .string nm] 149)).alloc (.cells #[.string nm] 9)).cell? ((⟨w2.heap.size + 1, 0, none⟩ : Addr).add j) = some u := by
        have h0 := cell_one_new (w2.alloc (.cells #[.int .i64 x, .string nm] 149)) (.string nm) 9
        have e1 : (w2.alloc (.cells #[.int .i64 x, .string nm] 149)).heap.size = w2.heap.size + 1 := by simp
        rw [e1] at h0
        exact h0
      clear hg12 hh hw1
      go_wp2_with (first
        | (at_builtin; refine wpList_append_own _ rfl _ _ 46 rfl (w.heap.size + 1) 9 i0 (.string ⟨#[]⟩) 1 16 Tryz.underlying46 hi hz0 hz1 hz2 rfl (by decide) _ _ _ rfl hrow3 ⟨w2.heap.size + 1, 0, none⟩ 1 1 [.string nm] rfl rfl hnew (fun x hx => by simp at hx; subst hx; rfl) (by unfold maxLen; omega) (by omega) (by simp; omega) ?_; intro v' w3 hown' hgrow3 hnil3)
        | go_in)
      · rename_i hxd
        have hgrow4 : ((w2.alloc (.cells #[.int .i64 x, .string nm] 149)).alloc (.cells #[.string nm] 9)).grownBy w3 (Value.ownBlock u5) := hgrow3
        have hown2 : Value.ownBlock u5 = none ∨ ∃ g, Value.ownBlock u5 = some g ∧ w.heap.size + 1 ≤ g := by
          rcases hrow.2 with ⟨rfl, _⟩ | ⟨g, cap, cur, rfl, hbase, _⟩
          · exact .inl rfl
          · exact .inr ⟨g, rfl, hbase⟩
        have hne : ∀ k, k ≤ w.heap.size → some k ≠ Value.ownBlock u5 := fun k hk e => by
          rcases hown2 with h | ⟨g, h, hg⟩
          · rw [h] at e; cases e
          · rw [h] at e; cases e; omega
        have hold : ∀ k, k ≤ w.heap.size → k < w2.heap.size → w3.heap[k]? = w2.heap[k]? := fun k hk hk2 => by
          rw [hgrow4.block k (by simp; omega) (hne k hk), Below.heap_alloc _ _ _ (by simp; omega), Below.heap_alloc _ _ _ hk2]
        have hr3 := (hold _ (Nat.le_refl _) hrl2).trans hr2
        have hb3 := (hold bm (by omega) hbl2).trans hb2
        have hfm : (el ++ [e]).filterMap (nameOf d) = el.filterMap (nameOf d) ++ [nm.data.toList] := by
          rw [List.filterMap_append]
          congr 1
          rw [List.filterMap_cons, hnm, if_pos (by simpa using hxd)]; rfl
        refine ⟨⟨el ++ [e], _, ck, hr3, Nat.le_refl _, hcol, hel2, hsub2, hb3, hlen2, ?_, ?_, ?_⟩, hlw _ hr3⟩
        · rw [hfm, List.length_append, List.map_append]
          simpa [encStr] using hown'
        · rw [hfm]; simp
        · exact ((hbel2.alloc (by omega) _).alloc (by simp; omega) _).grown hgrow4 (by simp; omega) (fun k hk => by
            rcases hown2 with h | ⟨g, h, hg⟩
            · rw [h] at hk; cases hk
            · rw [h] at hk; cases hk; omega)
      · rename_i hxd
        have hr3 := (Below.heap_alloc w2 (.cells #[.int .i64 x, .string nm] 149) _ hrl2).trans hr2
        have hb3 := (Below.heap_alloc w2 (.cells #[.int .i64 x, .string nm] 149) _ hbl2).trans hb2
        have hfm : (el ++ [e]).filterMap (nameOf d) = el.filterMap (nameOf d) := by
          rw [List.filterMap_append, List.filterMap_cons, hnm, if_neg (by simpa using hxd)]; simp
        refine ⟨⟨el ++ [e], _, ck, hr3, Nat.le_refl _, hcol, hel2, hsub2, hb3, hlen2, ?_, ?_, hbel2.alloc (by omega) _⟩, hlw _ hr3⟩
        · rw [hfm]; exact hrow2.alloc _
        · rw [hfm]; exact hvn
end Go.Proofs.YtncmgiddcefpcaaGreatDoor
