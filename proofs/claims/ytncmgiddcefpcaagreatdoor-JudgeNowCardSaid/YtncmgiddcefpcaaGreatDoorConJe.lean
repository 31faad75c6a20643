/- judge.Fine: the first mark that is not fine. -/
import Derived.Test.YtncmgiddcefpcaaGreatDoorConJd
import Derived.Test.YtncmgiddcefpcaaGreatDoorEvFn
namespace Go.Proofs.YtncmgiddcefpcaaGreatDoor
open Go Go.Ev Go.Con
set_option linter.unusedSimpArgs false
set_option linter.unusedVariables false
set_option maxRecDepth 100000
theorem flat_len {α : Type} (f : α → List Value) {n : Nat} (hf : ∀ x, (f x).length = n) (l : List α) : ((l.map f).flatten).length = l.length * n := by
  induction l with
  | nil => simp
  | cons a l ih => rw [List.map_cons, List.flatten_cons, List.length_append, ih, hf, List.length_cons, Nat.add_mul]; omega
theorem flat_at {α : Type} (f : α → List Value) {n : Nat} (hf : ∀ x, (f x).length = n) : ∀ (l : List α) {i : Nat} {x : α}, l[i]? = some x → (((l.map f).flatten).drop (i * n)).take n = f x
  | [], i, x, h => by simp at h
  | a :: l, 0, x, h => by
    simp at h; subst h
    rw [Nat.zero_mul, List.drop_zero, List.map_cons, List.flatten_cons, ← hf a, List.take_left]
  | a :: l, i + 1, x, h => by
    have := flat_at f hf l (i := i) (by simpa using h)
    rw [List.map_cons, List.flatten_cons, show (i + 1) * n = n + i * n by rw [Nat.add_mul]; omega, ← List.drop_drop]
    have e : ((f a) ++ (l.map f).flatten).drop n = (l.map f).flatten := by rw [← hf a]; exact List.drop_left
    rw [e]; exact this
abbrev MkSl (h : Hp) (v : Value) (l : List Mk) : Prop := SlAt h 7 v ((l.map mkC).flatten)
theorem MkSl.len {h : Hp} {v : Value} {l : List Mk} (s : MkSl h v l) : evLen kon.P 68 v = some (.int .i64 l.length) := by
  have fl := flat_len mkC (n := 7) (fun _ => rfl) l
  rcases s with ⟨rfl, hl⟩ | ⟨b, o, k, c, all, rfl, h2, h3, h4, h5, h6⟩
  · rw [hl] at fl
    have : l = [] := List.length_eq_zero_iff.1 (by simp at fl; omega)
    subst this; exact evLen_slice (e := 60) (by kernel_rfl)
  · have : k = l.length := by omega
    subst this
    exact evLen_slice (e := 60) (by kernel_rfl)
theorem MkSl.at {h : Hp} {v : Value} {l : List Mk} (s : MkSl h v l) {i : Nat} {x : Mk} (hi : l[i]? = some x) : ∃ b o all, evIndexAddr kon.P 68 v (.int .i64 i) = some (.pointer (some ⟨b, o, none⟩)) ∧ rowOf h b = some all ∧
    decide (o + 7 ≤ all.length) = true ∧ (all.drop o).take 7 = [.int .i64 x.proc, .int .i64 x.kind, .int .i64 x.uid, .int .i64 x.off, .int .i64 x.at_, .int .i64 x.before, .int .i64 x.after] := by
  have fl := flat_len mkC (n := 7) (fun _ => rfl) l
  have hlt : i < l.length := (List.getElem?_eq_some_iff.1 hi).1
  rcases s with ⟨rfl, hl⟩ | ⟨b, o, k, c, all, rfl, h2, h3, h4, h5, h6⟩
  · rw [hl] at fl; simp at fl; omega
  · have hk : k = l.length := by omega
    subst hk
    have hz : o + l.length * 7 ≤ all.length := by
      have := congrArg List.length h6
      rw [List.length_take, List.length_drop, fl] at this; omega
    refine ⟨b, o + i * 7, all, ?_, h4, decide_eq_true (by omega), ?_⟩
    · have := L_indexAddr (C := kon) (t := 68) (e := 60) (n := 7) (by kernel_rfl) (by kernel_rfl) b o l.length c .i64 i (by omega) (by omega)
      simpa using this
    · have := flat_at mkC (n := 7) (fun _ => rfl) l hi
      rw [← h6, List.drop_take, List.take_take, List.drop_drop] at this
      rw [← show mkC x = [.int .i64 x.proc, .int .i64 x.kind, .int .i64 x.uid, .int .i64 x.off, .int .i64 x.at_, .int .i64 x.before, .int .i64 x.after] from rfl, ← this]
      congr 1; omega
def fineI (T : Hi) (us : List ByteArray) (ms : List Mk) : Int := match ms.findIdx? fun m => !jFine T us m with
  | some k => k
  | none => -1
section
variable {h : Hp} {F : Nat → Prop} {T : Hi} {bt : Nat} {us : List ByteArray} {vu : Value} {p1 p2 : Nat}
theorem jclos_spec (t : TreeAt h F T bt) (su : StrSl h vu us) (hu : us.length ≤ 1000000000) (hac : ∀ u b, T.byUID u = some b → b.acl.length ≤ 1000000000) (r1 : rowOf h p1 = some [ptrV bt]) (r2 : rowOf h p2 = some [vu]) (l1 : p1 < h.next) (l2 : p2 < h.next) (m : Mk) :
    Meets kon 61 [.agg #[.int .i64 m.proc, .int .i64 m.kind, .int .i64 m.uid, .int .i64 m.off, .int .i64 m.at_, .int .i64 m.before, .int .i64 m.after], .pointer (some ⟨p1, 0, none⟩), .pointer (some ⟨p2, 0, none⟩)] h fun v h' => v = .bool (!jFine T us m) ∧ Keep h h' := by
  have e1 : (p1 = h.next) = False := by simp; omega
  have e2 : (p2 = h.next) = False := by simp; omega
  unfold ptrV at r1
  refine Meets.mk rfl (by kernel_rfl) Tryz.func61 rfl (congrArg Array.toList Tryz.results61) ?_
  repeat' (first | simp only [evr, nextP_norm, evd, evq, beq_self_eq_true, cond_true, cond_false, reduceIte, Nat.reduceEqDiff, Nat.reduceAdd, Int.reduceBNe, Int.reduceBEq, Int.reduceLT, Int.reduceLE, Int.reduceEq, evh, evp, Nat.reduceLeDiff, Nat.reduceSub, Nat.reduceBEq, typs, r1, r2, e1, e2] | refine kCond2_by (fun hc => ?_) (fun hc => ?_) <;> try simp only [hc] | refine kPick_by (fun hc => ?_) (fun hc => ?_) <;> try simp only [hc] | refine kWant_by (fun hc => ?_) (fun hc => ?_) <;> try simp only [hc])
  have k0 := Keep.push h (.row (mkC m) 60 (.rw 0 []))
  refine callP_meets (jfine_spec (t.keeps k0) (SlAt.keep su k0) hu m (fun b => hac m.uid b)) ?_
  rintro _ h1 ⟨rfl, k1⟩
  repeat' (first | simp only [evr, nextP_norm, evd, evq, beq_self_eq_true, cond_true, cond_false, reduceIte, Nat.reduceEqDiff, Nat.reduceAdd, Int.reduceBNe, Int.reduceBEq, Int.reduceLT, Int.reduceLE, Int.reduceEq, evh, evp, Nat.reduceLeDiff, Nat.reduceSub, Nat.reduceBEq, typs] | refine kCond2_by (fun hc => ?_) (fun hc => ?_) <;> try simp only [hc] | refine kPick_by (fun hc => ?_) (fun hc => ?_) <;> try simp only [hc] | refine kWant_by (fun hc => ?_) (fun hc => ?_) <;> try simp only [hc])
  exact k0.trans k1
set_option maxHeartbeats 1000000 in
theorem index_spec (t : TreeAt h F T bt) (su : StrSl h vu us) (hu : us.length ≤ 1000000000) (hac : ∀ u b, T.byUID u = some b → b.acl.length ≤ 1000000000) (r1 : rowOf h p1 = some [ptrV bt]) (r2 : rowOf h p2 = some [vu]) (l1 : p1 < h.next) (l2 : p2 < h.next) {vm : Value} {ms : List Mk} (sm : MkSl h vm ms) (hm : ms.length ≤ 1000000000) :
    Meets kon 60 [vm, .func (.func 61) #[] #[.pointer (some ⟨p1, 0, none⟩), .pointer (some ⟨p2, 0, none⟩)]] h fun v h' => v = .int .i64 (fineI T us ms) ∧ Keep h h' := by
  have lm := MkSl.len sm
  refine Meets.mk rfl (by kernel_rfl) Tryz.func60 rfl (congrArg Array.toList Tryz.results60) ?_
  repeat' (first | simp only [evr, nextP_norm, evd, evq, beq_self_eq_true, cond_true, cond_false, reduceIte, Nat.reduceEqDiff, Nat.reduceAdd, Int.reduceBNe, Int.reduceBEq, Int.reduceLT, Int.reduceLE, Int.reduceEq, evh, evp, Nat.reduceLeDiff, Nat.reduceSub, Nat.reduceBEq, typs, lm] | refine kCond2_by (fun hc => ?_) (fun hc => ?_) <;> try simp only [hc] | refine kPick_by (fun hc => ?_) (fun hc => ?_) <;> try simp only [hc] | refine kWant_by (fun hc => ?_) (fun hc => ?_) <;> try simp only [hc])
  refine Wp_loop (fun k fr h' => ∃ i : Nat, k = ms.length - i ∧ i ≤ ms.length ∧ fr.get 0 = some vm ∧ fr.get 1 = some (.func (.func 61) #[] #[.pointer (some ⟨p1, 0, none⟩), .pointer (some ⟨p2, 0, none⟩)]) ∧ fr.get 7 = some (.int .i64 ms.length) ∧ fr.get 8 = some (.int .i64 i) ∧ Keep h h' ∧ ∀ x ∈ ms.take i, (!jFine T us x) = false) ms.length ⟨0, rfl, Nat.zero_le _, ?_, ?_, ?_, ?_, Keep.refl _, by simp⟩ ?_
  · repeat' (first | simp only [evr, nextP_norm, evd, evq, beq_self_eq_true, cond_true, cond_false, reduceIte, Nat.reduceEqDiff, Nat.reduceAdd, Int.reduceBNe, Int.reduceBEq, Int.reduceLT, Int.reduceLE, Int.reduceEq, evh, evp, Nat.reduceLeDiff, Nat.reduceSub, Nat.reduceBEq, typs] | refine kCond2_by (fun hc => ?_) (fun hc => ?_) <;> try simp only [hc] | refine kPick_by (fun hc => ?_) (fun hc => ?_) <;> try simp only [hc] | refine kWant_by (fun hc => ?_) (fun hc => ?_) <;> try simp only [hc])
  · repeat' (first | simp only [evr, nextP_norm, evd, evq, beq_self_eq_true, cond_true, cond_false, reduceIte, Nat.reduceEqDiff, Nat.reduceAdd, Int.reduceBNe, Int.reduceBEq, Int.reduceLT, Int.reduceLE, Int.reduceEq, evh, evp, Nat.reduceLeDiff, Nat.reduceSub, Nat.reduceBEq, typs] | refine kCond2_by (fun hc => ?_) (fun hc => ?_) <;> try simp only [hc] | refine kPick_by (fun hc => ?_) (fun hc => ?_) <;> try simp only [hc] | refine kWant_by (fun hc => ?_) (fun hc => ?_) <;> try simp only [hc])
  · repeat' (first | simp only [evr, nextP_norm, evd, evq, beq_self_eq_true, cond_true, cond_false, reduceIte, Nat.reduceEqDiff, Nat.reduceAdd, Int.reduceBNe, Int.reduceBEq, Int.reduceLT, Int.reduceLE, Int.reduceEq, evh, evp, Nat.reduceLeDiff, Nat.reduceSub, Nat.reduceBEq, typs] | refine kCond2_by (fun hc => ?_) (fun hc => ?_) <;> try simp only [hc] | refine kPick_by (fun hc => ?_) (fun hc => ?_) <;> try simp only [hc] | refine kWant_by (fun hc => ?_) (fun hc => ?_) <;> try simp only [hc])
  · repeat' (first | simp only [evr, nextP_norm, evd, evq, beq_self_eq_true, cond_true, cond_false, reduceIte, Nat.reduceEqDiff, Nat.reduceAdd, Int.reduceBNe, Int.reduceBEq, Int.reduceLT, Int.reduceLE, Int.reduceEq, evh, evp, Nat.reduceLeDiff, Nat.reduceSub, Nat.reduceBEq, typs] | refine kCond2_by (fun hc => ?_) (fun hc => ?_) <;> try simp only [hc] | refine kPick_by (fun hc => ?_) (fun hc => ?_) <;> try simp only [hc] | refine kWant_by (fun hc => ?_) (fun hc => ?_) <;> try simp only [hc])
    rfl
  rintro k fr H ⟨i, rfl, hi, g0, g1, g7, g8, K, hp⟩
  by_cases h3 : i < ms.length
  · have e3 : decide ((i : Int) < ms.length) = true := by simp; omega
    obtain ⟨b, o, all, hia, hr, d1, d2⟩ := MkSl.at (SlAt.keep sm K) (List.getElem?_eq_getElem h3)
    have w1 := wrap64 (x := (i : Int) + 1) (by omega) (by omega)
    have rr : ∀ {p : Nat}, p < h.next → rowOf H p = rowOf h p := fun hp => by unfold rowOf; rw [K.2 _ hp]
    repeat' (first | simp only [evr, nextP_norm, evd, evq, beq_self_eq_true, cond_true, cond_false, reduceIte, Nat.reduceEqDiff, Nat.reduceAdd, Int.reduceBNe, Int.reduceBEq, Int.reduceLT, Int.reduceLE, Int.reduceEq, evh, evp, Nat.reduceLeDiff, Nat.reduceSub, Nat.reduceBEq, typs, g0, g1, g7, g8, e3, hia, hr, d1, d2, P_callV, kFn_eq] | refine kCond2_by (fun hc => ?_) (fun hc => ?_) <;> try simp only [hc] | refine kPick_by (fun hc => ?_) (fun hc => ?_) <;> try simp only [hc] | refine kWant_by (fun hc => ?_) (fun hc => ?_) <;> try simp only [hc])
    refine callP_meets (jclos_spec (t.keeps K) (SlAt.keep su K) hu hac ((rr l1).trans r1) ((rr l2).trans r2) (Nat.lt_of_lt_of_le l1 K.1) (Nat.lt_of_lt_of_le l2 K.1) ms[i]) ?_
    rintro _ H1 ⟨rfl, k1⟩
    cases hj : !jFine T us ms[i] with
    | true =>
      repeat' (first | simp only [evr, nextP_norm, evd, evq, beq_self_eq_true, cond_true, cond_false, reduceIte, Nat.reduceEqDiff, Nat.reduceAdd, Int.reduceBNe, Int.reduceBEq, Int.reduceLT, Int.reduceLE, Int.reduceEq, evh, evp, Nat.reduceLeDiff, Nat.reduceSub, Nat.reduceBEq, typs] | refine kCond2_by (fun hc => ?_) (fun hc => ?_) <;> try simp only [hc] | refine kPick_by (fun hc => ?_) (fun hc => ?_) <;> try simp only [hc] | refine kWant_by (fun hc => ?_) (fun hc => ?_) <;> try simp only [hc])
      refine ⟨?_, K.trans k1⟩
      unfold fineI
      have : ms.findIdx? (fun m => !jFine T us m) = some i := by
        rw [List.findIdx?_eq_some_iff_getElem]
        refine ⟨h3, hj, fun j hj2 => ?_⟩
        have := hp ms[j] (List.mem_take_iff_getElem.2 ⟨j, by omega, rfl⟩)
        simpa using this
      rw [this]
    | false =>
      repeat' (first | simp only [evr, nextP_norm, evd, evq, beq_self_eq_true, cond_true, cond_false, reduceIte, Nat.reduceEqDiff, Nat.reduceAdd, Int.reduceBNe, Int.reduceBEq, Int.reduceLT, Int.reduceLE, Int.reduceEq, evh, evp, Nat.reduceLeDiff, Nat.reduceSub, Nat.reduceBEq, typs, w1, g0, g1, g7, g8] | refine kCond2_by (fun hc => ?_) (fun hc => ?_) <;> try simp only [hc] | refine kPick_by (fun hc => ?_) (fun hc => ?_) <;> try simp only [hc] | refine kWant_by (fun hc => ?_) (fun hc => ?_) <;> try simp only [hc])
      refine ⟨ms.length - (i + 1), by omega, i + 1, rfl, by omega, rfl, K.trans k1, fun x hx => ?_⟩
      rw [← List.take_append_getElem h3] at hx
      rcases List.mem_append.1 hx with hx | hx
      · exact hp x hx
      · simp only [List.mem_singleton] at hx; subst hx; exact hj
  · have e3 : decide ((i : Int) < ms.length) = false := by simp; omega
    have hi2 : i = ms.length := by omega
    subst hi2
    rw [List.take_length] at hp
    repeat' (first | simp only [evr, nextP_norm, evd, evq, beq_self_eq_true, cond_true, cond_false, reduceIte, Nat.reduceEqDiff, Nat.reduceAdd, Int.reduceBNe, Int.reduceBEq, Int.reduceLT, Int.reduceLE, Int.reduceEq, evh, evp, Nat.reduceLeDiff, Nat.reduceSub, Nat.reduceBEq, typs, g0, g1, g7, g8, e3] | refine kCond2_by (fun hc => ?_) (fun hc => ?_) <;> try simp only [hc] | refine kPick_by (fun hc => ?_) (fun hc => ?_) <;> try simp only [hc] | refine kWant_by (fun hc => ?_) (fun hc => ?_) <;> try simp only [hc])
    refine ⟨?_, K⟩
    unfold fineI
    have : ms.findIdx? (fun m => !jFine T us m) = none := by
      rw [List.findIdx?_eq_none_iff]; intro x hx; exact hp x hx
    rw [this]
/-- judge.Fine. -/
theorem jFine_spec (t : TreeAt h F T bt) (su : StrSl h vu us) (hu : us.length ≤ 1000000000) (hac : ∀ u b, T.byUID u = some b → b.acl.length ≤ 1000000000) {vm : Value} {ms : List Mk} (sm : MkSl h vm ms) (hm : ms.length ≤ 1000000000) :
    Meets kon 29 [ptrV bt, vu, vm] h fun v h' => v = .tuple #[.int .i64 (fineI T us ms), .bool (fineI T us ms == -1)] ∧ Keep h h' := by
  have hsc : isCell vu = true := by rcases su with ⟨rfl, _⟩ | ⟨b, o, k, c, all, rfl, _⟩ <;> rfl
  have hcv : vu.cells = #[vu] := by rcases su with ⟨rfl, _⟩ | ⟨b, o, k, c, all, rfl, _⟩ <;> rfl
  have hbx : boxable vu = true := by rcases su with ⟨rfl, _⟩ | ⟨b, o, k, c, all, rfl, _⟩ <;> rfl
  have kb : ∀ (h : Hp) (Q : Value → Hp → Prop), kBox 46 h Q vu = Q (.pointer (some ⟨h.next, 0, none⟩)) (h.push (.row [vu] 46 (.rw 0 []))) := fun h Q => by rw [kBox_eq hbx, hcv]
  unfold ptrV
  refine Meets.mk rfl (by kernel_rfl) Tryz.func29 rfl (congrArg Array.toList Tryz.results29) ?_
  repeat' (first | simp only [evr, nextP_norm, evd, evq, beq_self_eq_true, cond_true, cond_false, reduceIte, Nat.reduceEqDiff, Nat.reduceAdd, Int.reduceBNe, Int.reduceBEq, Int.reduceLT, Int.reduceLE, Int.reduceEq, evh, evp, Nat.reduceLeDiff, Nat.reduceSub, Nat.reduceBEq, typs, kb, P_makeFunc] | refine kCond2_by (fun hc => ?_) (fun hc => ?_) <;> try simp only [hc] | refine kPick_by (fun hc => ?_) (fun hc => ?_) <;> try simp only [hc] | refine kWant_by (fun hc => ?_) (fun hc => ?_) <;> try simp only [hc])
  generalize hh : Hp.push _ _ = H
  have K : Keep h H := by rw [← hh]; exact (Keep.push _ _).pushed
  have n : H.next = h.next + 2 := by rw [← hh]; rfl
  have r1 : rowOf H h.next = some [ptrV bt] := by rw [← hh]; exact rowOf_rw ((Hp.get_push_lt (Nat.lt_succ_self _)).trans (Hp.get_push_self _ _))
  have r2 : rowOf H (h.next + 1) = some [vu] := by rw [← hh]; exact rowOf_rw (Hp.get_push_self (h.push _) _)
  clear hh
  have r1' := r1
  unfold ptrV at r1'
  repeat' (first | simp only [evr, nextP_norm, evd, evq, beq_self_eq_true, cond_true, cond_false, reduceIte, Nat.reduceEqDiff, Nat.reduceAdd, Int.reduceBNe, Int.reduceBEq, Int.reduceLT, Int.reduceLE, Int.reduceEq, evh, evp, Nat.reduceLeDiff, Nat.reduceSub, Nat.reduceBEq, typs, r1', P_makeFunc] | refine kCond2_by (fun hc => ?_) (fun hc => ?_) <;> try simp only [hc] | refine kPick_by (fun hc => ?_) (fun hc => ?_) <;> try simp only [hc] | refine kWant_by (fun hc => ?_) (fun hc => ?_) <;> try simp only [hc])
  refine callP_meets (index_spec (t.keeps K) (SlAt.keep su K) hu hac r1 r2 (by omega) (by omega) (SlAt.keep sm K) hm) ?_
  rintro _ H1 ⟨rfl, k1⟩
  repeat' (first | simp only [evr, nextP_norm, evd, evq, beq_self_eq_true, cond_true, cond_false, reduceIte, Nat.reduceEqDiff, Nat.reduceAdd, Int.reduceBNe, Int.reduceBEq, Int.reduceLT, Int.reduceLE, Int.reduceEq, evh, evp, Nat.reduceLeDiff, Nat.reduceSub, Nat.reduceBEq, typs] | refine kCond2_by (fun hc => ?_) (fun hc => ?_) <;> try simp only [hc] | refine kPick_by (fun hc => ?_) (fun hc => ?_) <;> try simp only [hc] | refine kWant_by (fun hc => ?_) (fun hc => ?_) <;> try simp only [hc])
  first | exact K.trans k1 | exact ⟨rfl, K.trans k1⟩
end
end Go.Proofs.YtncmgiddcefpcaaGreatDoor
