/- Texts joined: what the claim needs of them. No condition. -/
import Derived.Test.YtncmgiddcefpcaaGreatDoorBin10
import Derived.Test.YtncmgiddcefpcaaGreatDoorBin7
import Derived.Test.YtncmgiddcefpcaaGreatDoorBin4
import Derived.Test.YtncmgiddcefpcaaGreatDoorBin6
namespace Go.Proofs.YtncmgiddcefpcaaGreatDoor
open Go Go.Ev Go.Con
set_option linter.unusedSimpArgs false
set_option linter.unusedVariables false
set_option maxRecDepth 100000
theorem flat_len {α : Type} (f : α → List Value) {n : Nat} (hf : ∀ x, (f x).length = n) (l : List α) : ((l.map f).flatten).length = l.length * n := by
  induction l with
  | nil => simp
  | cons a l ih => rw [List.map_cons, List.flatten_cons, List.length_append, ih, hf, List.length_cons, Nat.add_mul]; omega
theorem flat_at {α : Type} (f : α → List Value) {n : Nat} (hf : ∀ x, (f x).length = n) : ∀ (l : List α) {i : Nat} {x : α}, l[i]? = some x → (((l.map f).flatten).drop (i * n)).take n = f x
  | [], i, x, h => by simp at h
  | a :: l, 0, x, h => by
    simp at h; subst h
    rw [Nat.zero_mul, List.drop_zero, List.map_cons, List.flatten_cons, ← hf a, List.take_left]
  | a :: l, i + 1, x, h => by
    have := flat_at f hf l (i := i) (by simpa using h)
    rw [List.map_cons, List.flatten_cons, show (i + 1) * n = n + i * n by rw [Nat.add_mul]; omega, ← List.drop_drop]
    have e : ((f a) ++ (l.map f).flatten).drop n = (l.map f).flatten := by rw [← hf a]; exact List.drop_left
    rw [e]; exact this
abbrev MkSl (h : Hp) (v : Value) (l : List Mk) : Prop := SlAt h 7 v ((l.map mkC).flatten)
theorem MkSl.len {h : Hp} {v : Value} {l : List Mk} (s : MkSl h v l) : evLen kon.P 68 v = some (.int .i64 l.length) := by
  have fl := flat_len mkC (n := 7) (fun _ => rfl) l
  rcases s with ⟨rfl, hl⟩ | ⟨b, o, k, c, all, rfl, h2, h3, h4, h5, h6⟩
  · rw [hl] at fl
    have : l = [] := List.length_eq_zero_iff.1 (by simp at fl; omega)
    subst this; exact evLen_slice (e := 60) (by kernel_rfl)
  · have : k = l.length := by omega
    subst this
    exact evLen_slice (e := 60) (by kernel_rfl)
theorem MkSl.at {h : Hp} {v : Value} {l : List Mk} (s : MkSl h v l) {i : Nat} {x : Mk} (hi : l[i]? = some x) : ∃ b o all, evIndexAddr kon.P 68 v (.int .i64 i) = some (.pointer (some ⟨b, o, none⟩)) ∧ rowOf h b = some all ∧
    decide (o + 7 ≤ all.length) = true ∧ (all.drop o).take 7 = [.int .i64 x.proc, .int .i64 x.kind, .int .i64 x.uid, .int .i64 x.off, .int .i64 x.at_, .int .i64 x.before, .int .i64 x.after] := by
  have fl := flat_len mkC (n := 7) (fun _ => rfl) l
  have hlt : i < l.length := (List.getElem?_eq_some_iff.1 hi).1
  rcases s with ⟨rfl, hl⟩ | ⟨b, o, k, c, all, rfl, h2, h3, h4, h5, h6⟩
  · rw [hl] at fl; simp at fl; omega
  · have hk : k = l.length := by omega
    subst hk
    have hz : o + l.length * 7 ≤ all.length := by
      have := congrArg List.length h6
      rw [List.length_take, List.length_drop, fl] at this; omega
    refine ⟨b, o + i * 7, all, ?_, h4, decide_eq_true (by omega), ?_⟩
    · have := L_indexAddr (C := kon) (t := 68) (e := 60) (n := 7) (by kernel_rfl) (by kernel_rfl) b o l.length c .i64 i (by omega) (by omega)
      simpa using this
    · have := flat_at mkC (n := 7) (fun _ => rfl) l hi
      rw [← h6, List.drop_take, List.take_take, List.drop_drop] at this
      rw [← show mkC x = [.int .i64 x.proc, .int .i64 x.kind, .int .i64 x.uid, .int .i64 x.off, .int .i64 x.at_, .int .i64 x.before, .int .i64 x.after] from rfl, ← this]
      congr 1; omega
def fineI (T : Hi) (us : List ByteArray) (ms : List Mk) : Int := match ms.findIdx? fun m => !jFine T us m with
  | some k => k
  | none => -1
section
variable {h : Hp} {F : Nat → Prop} {T : Hi} {bt : Nat} {us : List ByteArray} {vu : Value} {p1 p2 : Nat}
theorem jclos_spec (t : TreeAt h F T bt) (su : StrSl h vu us) (hu : us.length ≤ 1000000000) (hac : ∀ u b, T.byUID u = some b → b.acl.length ≤ 1000000000) (r1 : rowOf h p1 = some [ptrV bt]) (r2 : rowOf h p2 = some [vu]) (l1 : p1 < h.next) (l2 : p2 < h.next) (m : Mk) :
    Meets kon 61 [.agg #[.int .i64 m.proc, .int .i64 m.kind, .int .i64 m.uid, .int .i64 m.off, .int .i64 m.at_, .int .i64 m.before, .int .i64 m.after], .pointer (some ⟨p1, 0, none⟩), .pointer (some ⟨p2, 0, none⟩)] h fun v h' => v = .bool (!jFine T us m) ∧ Keep h h' := by
  have e1 : (p1 = h.next) = False := by simp; omega
  have e2 : (p2 = h.next) = False := by simp; omega
  unfold ptrV at r1
  refine Meets.mk rfl (by kernel_rfl) Tryz.func61 rfl (congrArg Array.toList Tryz.results61) ?_
  repeat' (first | simp only [evr, nextP_norm, evd, evq, beq_self_eq_true, cond_true, cond_false, reduceIte, Nat.reduceEqDiff, Nat.reduceAdd, Int.reduceBNe, Int.reduceBEq, Int.reduceLT, Int.reduceLE, Int.reduceEq, evh, evp, Nat.reduceLeDiff, Nat.reduceSub, Nat.reduceBEq, typs, r1, r2, e1, e2] | refine kCond2_by (fun hc => ?_) (fun hc => ?_) <;> try simp only [hc] | refine kPick_by (fun hc => ?_) (fun hc => ?_) <;> try simp only [hc] | refine kWant_by (fun hc => ?_) (fun hc => ?_) <;> try simp only [hc])
  have k0 := Keep.push h (.row (mkC m) 60 (.rw 0 []))
  refine callP_meets (jfine_spec (t.keeps k0) (SlAt.keep su k0) hu m (fun b => hac m.uid b)) ?_
  rintro _ h1 ⟨rfl, k1⟩
  repeat' (first | simp only [evr, nextP_norm, evd, evq, beq_self_eq_true, cond_true, cond_false, reduceIte, Nat.reduceEqDiff, Nat.reduceAdd, Int.reduceBNe, Int.reduceBEq, Int.reduceLT, Int.reduceLE, Int.reduceEq, evh, evp, Nat.reduceLeDiff, Nat.reduceSub, Nat.reduceBEq, typs] | refine kCond2_by (fun hc => ?_) (fun hc => ?_) <;> try simp only [hc] | refine kPick_by (fun hc => ?_) (fun hc => ?_) <;> try simp only [hc] | refine kWant_by (fun hc => ?_) (fun hc => ?_) <;> try simp only [hc])
  exact k0.trans k1
set_option maxHeartbeats 1000000 in
theorem index_spec (t : TreeAt h F T bt) (su : StrSl h vu us) (hu : us.length ≤ 1000000000) (hac : ∀ u b, T.byUID u = some b → b.acl.length ≤ 1000000000) (r1 : rowOf h p1 = some [ptrV bt]) (r2 : rowOf h p2 = some [vu]) (l1 : p1 < h.next) (l2 : p2 < h.next) {vm : Value} {ms : List Mk} (sm : MkSl h vm ms) (hm : ms.length ≤ 1000000000) :
    Meets kon 60 [vm, .func (.func 61) #[] #[.pointer (some ⟨p1, 0, none⟩), .pointer (some ⟨p2, 0, none⟩)]] h fun v h' => v = .int .i64 (fineI T us ms) ∧ Keep h h' := by
  have lm := MkSl.len sm
  refine Meets.mk rfl (by kernel_rfl) Tryz.func60 rfl (congrArg Array.toList Tryz.results60) ?_
  repeat' (first | simp only [evr, nextP_norm, evd, evq, beq_self_eq_true, cond_true, cond_false, reduceIte, Nat.reduceEqDiff, Nat.reduceAdd, Int.reduceBNe, Int.reduceBEq, Int.reduceLT, Int.reduceLE, Int.reduceEq, evh, evp, Nat.reduceLeDiff, Nat.reduceSub, Nat.reduceBEq, typs, lm] | refine kCond2_by (fun hc => ?_) (fun hc => ?_) <;> try simp only [hc] | refine kPick_by (fun hc => ?_) (fun hc => ?_) <;> try simp only [hc] | refine kWant_by (fun hc => ?_) (fun hc => ?_) <;> try simp only [hc])
  refine Wp_loop (fun k fr h' => ∃ i : Nat, k = ms.length - i ∧ i ≤ ms.length ∧ fr.get 0 = some vm ∧ fr.get 1 = some (.func (.func 61) #[] #[.pointer (some ⟨p1, 0, none⟩), .pointer (some ⟨p2, 0, none⟩)]) ∧ fr.get 7 = some (.int .i64 ms.length) ∧ fr.get 8 = some (.int .i64 i) ∧ Keep h h' ∧ ∀ x ∈ ms.take i, (!jFine T us x) = false) ms.length ⟨0, rfl, Nat.zero_le _, ?_, ?_, ?_, ?_, Keep.refl _, by simp⟩ ?_
  · repeat' (first | simp only [evr, nextP_norm, evd, evq, beq_self_eq_true, cond_true, cond_false, reduceIte, Nat.reduceEqDiff, Nat.reduceAdd, Int.reduceBNe, Int.reduceBEq, Int.reduceLT, Int.reduceLE, Int.reduceEq, evh, evp, Nat.reduceLeDiff, Nat.reduceSub, Nat.reduceBEq, typs] | refine kCond2_by (fun hc => ?_) (fun hc => ?_) <;> try simp only [hc] | refine kPick_by (fun hc => ?_) (fun hc => ?_) <;> try simp only [hc] | refine kWant_by (fun hc => ?_) (fun hc => ?_) <;> try simp only [hc])
  · repeat' (first | simp only [evr, nextP_norm, evd, evq, beq_self_eq_true, cond_true, cond_false, reduceIte, Nat.reduceEqDiff, Nat.reduceAdd, Int.reduceBNe, Int.reduceBEq, Int.reduceLT, Int.reduceLE, Int.reduceEq, evh, evp, Nat.reduceLeDiff, Nat.reduceSub, Nat.reduceBEq, typs] | refine kCond2_by (fun hc => ?_) (fun hc => ?_) <;> try simp only [hc] | refine kPick_by (fun hc => ?_) (fun hc => ?_) <;> try simp only [hc] | refine kWant_by (fun hc => ?_) (fun hc => ?_) <;> try simp only [hc])
  · repeat' (first | simp only [evr, nextP_norm, evd, evq, beq_self_eq_true, cond_true, cond_false, reduceIte, Nat.reduceEqDiff, Nat.reduceAdd, Int.reduceBNe, Int.reduceBEq, Int.reduceLT, Int.reduceLE, Int.reduceEq, evh, evp, Nat.reduceLeDiff, Nat.reduceSub, Nat.reduceBEq, typs] | refine kCond2_by (fun hc => ?_) (fun hc => ?_) <;> try simp only [hc] | refine kPick_by (fun hc => ?_) (fun hc => ?_) <;> try simp only [hc] | refine kWant_by (fun hc => ?_) (fun hc => ?_) <;> try simp only [hc])
  · repeat' (first | simp only [evr, nextP_norm, evd, evq, beq_self_eq_true, cond_true, cond_false, reduceIte, Nat.reduceEqDiff, Nat.reduceAdd, Int.reduceBNe, Int.reduceBEq, Int.reduceLT, Int.reduceLE, Int.reduceEq, evh, evp, Nat.reduceLeDiff, Nat.reduceSub, Nat.reduceBEq, typs] | refine kCond2_by (fun hc => ?_) (fun hc => ?_) <;> try simp only [hc] | refine kPick_by (fun hc => ?_) (fun hc => ?_) <;> try simp only [hc] | refine kWant_by (fun hc => ?_) (fun hc => ?_) <;> try simp only [hc])
    rfl
  rintro k fr H ⟨i, rfl, hi, g0, g1, g7, g8, K, hp⟩
  by_cases h3 : i < ms.length
  · have e3 : decide ((i : Int) < ms.length) = true := by simp; omega
    obtain ⟨b, o, all, hia, hr, d1, d2⟩ := MkSl.at (SlAt.keep sm K) (List.getElem?_eq_getElem h3)
    have w1 := wrap64 (x := (i : Int) + 1) (by omega) (by omega)
    have rr : ∀ {p : Nat}, p < h.next → rowOf H p = rowOf h p := fun hp => by unfold rowOf; rw [K.2 _ hp]
    repeat' (first | simp only [evr, nextP_norm, evd, evq, beq_self_eq_true, cond_true, cond_false, reduceIte, Nat.reduceEqDiff, Nat.reduceAdd, Int.reduceBNe, Int.reduceBEq, Int.reduceLT, Int.reduceLE, Int.reduceEq, evh, evp, Nat.reduceLeDiff, Nat.reduceSub, Nat.reduceBEq, typs, g0, g1, g7, g8, e3, hia, hr, d1, d2, P_callV, kFn_eq] | refine kCond2_by (fun hc => ?_) (fun hc => ?_) <;> try simp only [hc] | refine kPick_by (fun hc => ?_) (fun hc => ?_) <;> try simp only [hc] | refine kWant_by (fun hc => ?_) (fun hc => ?_) <;> try simp only [hc])
    refine callP_meets (jclos_spec (t.keeps K) (SlAt.keep su K) hu hac ((rr l1).trans r1) ((rr l2).trans r2) (Nat.lt_of_lt_of_le l1 K.1) (Nat.lt_of_lt_of_le l2 K.1) ms[i]) ?_
    rintro _ H1 ⟨rfl, k1⟩
    cases hj : !jFine T us ms[i] with
    | true =>
      repeat' (first | simp only [evr, nextP_norm, evd, evq, beq_self_eq_true, cond_true, cond_false, reduceIte, Nat.reduceEqDiff, Nat.reduceAdd, Int.reduceBNe, Int.reduceBEq, Int.reduceLT, Int.reduceLE, Int.reduceEq, evh, evp, Nat.reduceLeDiff, Nat.reduceSub, Nat.reduceBEq, typs] | refine kCond2_by (fun hc => ?_) (fun hc => ?_) <;> try simp only [hc] | refine kPick_by (fun hc => ?_) (fun hc => ?_) <;> try simp only [hc] | refine kWant_by (fun hc => ?_) (fun hc => ?_) <;> try simp only [hc])
      refine ⟨?_, K.trans k1⟩
      unfold fineI
      have : ms.findIdx? (fun m => !jFine T us m) = some i := by
        rw [List.findIdx?_eq_some_iff_getElem]
        refine ⟨h3, hj, fun j hj2 => ?_⟩
        have := hp ms[j] (List.mem_take_iff_getElem.2 ⟨j, by omega, rfl⟩)
        simpa using this
      rw [this]
    | false =>
      repeat' (first | simp only [evr, nextP_norm, evd, evq, beq_self_eq_true, cond_true, cond_false, reduceIte, Nat.reduceEqDiff, Nat.reduceAdd, Int.reduceBNe, Int.reduceBEq, Int.reduceLT, Int.reduceLE, Int.reduceEq, evh, evp, Nat.reduceLeDiff, Nat.reduceSub, Nat.reduceBEq, typs, w1, g0, g1, g7, g8] | refine kCond2_by (fun hc => ?_) (fun hc => ?_) <;> try simp only [hc] | refine kPick_by (fun hc => ?_) (fun hc => ?_) <;> try simp only [hc] | refine kWant_by (fun hc => ?_) (fun hc => ?_) <;> try simp only [hc])
      refine ⟨ms.length - (i + 1), by omega, i + 1, rfl, by omega, rfl, K.trans k1, fun x hx => ?_⟩
      rw [← List.take_append_getElem h3] at hx
      rcases List.mem_append.1 hx with hx | hx
      · exact hp x hx
      · simp only [List.mem_singleton] at hx; subst hx; exact hj
  · have e3 : decide ((i : Int) < ms.length) = false := by simp; omega
    have hi2 : i = ms.length := by omega
    subst hi2
    rw [List.take_length] at hp
    repeat' (first | simp only [evr, nextP_norm, evd, evq, beq_self_eq_true, cond_true, cond_false, reduceIte, Nat.reduceEqDiff, Nat.reduceAdd, Int.reduceBNe, Int.reduceBEq, Int.reduceLT, Int.reduceLE, Int.reduceEq, evh, evp, Nat.reduceLeDiff, Nat.reduceSub, Nat.reduceBEq, typs, g0, g1, g7, g8, e3] | refine kCond2_by (fun hc => ?_) (fun hc => ?_) <;> try simp only [hc] | refine kPick_by (fun hc => ?_) (fun hc => ?_) <;> try simp only [hc] | refine kWant_by (fun hc => ?_) (fun hc => ?_) <;> try simp only [hc])
    refine ⟨?_, K⟩
    unfold fineI
    have : ms.findIdx? (fun m => !jFine T us m) = none := by
      rw [List.findIdx?_eq_none_iff]; intro x hx; exact hp x hx
    rw [this]
theorem jFine_spec (t : TreeAt h F T bt) (su : StrSl h vu us) (hu : us.length ≤ 1000000000) (hac : ∀ u b, T.byUID u = some b → b.acl.length ≤ 1000000000) {vm : Value} {ms : List Mk} (sm : MkSl h vm ms) (hm : ms.length ≤ 1000000000) :
    Meets kon 29 [ptrV bt, vu, vm] h fun v h' => v = .tuple #[.int .i64 (fineI T us ms), .bool (fineI T us ms == -1)] ∧ Keep h h' := by
  have hsc : isCell vu = true := by rcases su with ⟨rfl, _⟩ | ⟨b, o, k, c, all, rfl, _⟩ <;> rfl
  have hcv : vu.cells = #[vu] := by rcases su with ⟨rfl, _⟩ | ⟨b, o, k, c, all, rfl, _⟩ <;> rfl
  have hbx : boxable vu = true := by rcases su with ⟨rfl, _⟩ | ⟨b, o, k, c, all, rfl, _⟩ <;> rfl
  have kb : ∀ (h : Hp) (Q : Value → Hp → Prop), kBox 46 h Q vu = Q (.pointer (some ⟨h.next, 0, none⟩)) (h.push (.row [vu] 46 (.rw 0 []))) := fun h Q => by rw [kBox_eq hbx, hcv]
  unfold ptrV
  refine Meets.mk rfl (by kernel_rfl) Tryz.func29 rfl (congrArg Array.toList Tryz.results29) ?_
  repeat' (first | simp only [evr, nextP_norm, evd, evq, beq_self_eq_true, cond_true, cond_false, reduceIte, Nat.reduceEqDiff, Nat.reduceAdd, Int.reduceBNe, Int.reduceBEq, Int.reduceLT, Int.reduceLE, Int.reduceEq, evh, evp, Nat.reduceLeDiff, Nat.reduceSub, Nat.reduceBEq, typs, kb, P_makeFunc] | refine kCond2_by (fun hc => ?_) (fun hc => ?_) <;> try simp only [hc] | refine kPick_by (fun hc => ?_) (fun hc => ?_) <;> try simp only [hc] | refine kWant_by (fun hc => ?_) (fun hc => ?_) <;> try simp only [hc])
  generalize hh : Hp.push _ _ = H
  have K : Keep h H := by rw [← hh]; exact (Keep.push _ _).pushed
  have n : H.next = h.next + 2 := by rw [← hh]; rfl
  have r1 : rowOf H h.next = some [ptrV bt] := by rw [← hh]; exact rowOf_rw ((Hp.get_push_lt (Nat.lt_succ_self _)).trans (Hp.get_push_self _ _))
  have r2 : rowOf H (h.next + 1) = some [vu] := by rw [← hh]; exact rowOf_rw (Hp.get_push_self (h.push _) _)
  clear hh
  have r1' := r1
  unfold ptrV at r1'
  repeat' (first | simp only [evr, nextP_norm, evd, evq, beq_self_eq_true, cond_true, cond_false, reduceIte, Nat.reduceEqDiff, Nat.reduceAdd, Int.reduceBNe, Int.reduceBEq, Int.reduceLT, Int.reduceLE, Int.reduceEq, evh, evp, Nat.reduceLeDiff, Nat.reduceSub, Nat.reduceBEq, typs, r1', P_makeFunc] | refine kCond2_by (fun hc => ?_) (fun hc => ?_) <;> try simp only [hc] | refine kPick_by (fun hc => ?_) (fun hc => ?_) <;> try simp only [hc] | refine kWant_by (fun hc => ?_) (fun hc => ?_) <;> try simp only [hc])
  refine callP_meets (index_spec (t.keeps K) (SlAt.keep su K) hu hac r1 r2 (by omega) (by omega) (SlAt.keep sm K) hm) ?_
  rintro _ H1 ⟨rfl, k1⟩
  repeat' (first | simp only [evr, nextP_norm, evd, evq, beq_self_eq_true, cond_true, cond_false, reduceIte, Nat.reduceEqDiff, Nat.reduceAdd, Int.reduceBNe, Int.reduceBEq, Int.reduceLT, Int.reduceLE, Int.reduceEq, evh, evp, Nat.reduceLeDiff, Nat.reduceSub, Nat.reduceBEq, typs] | refine kCond2_by (fun hc => ?_) (fun hc => ?_) <;> try simp only [hc] | refine kPick_by (fun hc => ?_) (fun hc => ?_) <;> try simp only [hc] | refine kWant_by (fun hc => ?_) (fun hc => ?_) <;> try simp only [hc])
  first | exact K.trans k1 | exact ⟨rfl, K.trans k1⟩
end
end Go.Proofs.YtncmgiddcefpcaaGreatDoor
namespace Go.Proofs.YtncmgiddcefpcaaGreatDoor
open Go Go.Ev Go.Con
set_option linter.unusedSimpArgs false
set_option linter.unusedVariables false
set_option maxRecDepth 100000
def lastF (u : ByteArray) (f : Fl) (l : List Tm) : Fl := l.foldl (fun f t => if t.user = u then t.f else f) f
theorem lastF_snoc {u : ByteArray} {f : Fl} {l : List Tm} {i : Nat} {x : Tm} (hi : l[i]? = some x) : lastF u f (l.take (i + 1)) = if x.user = u then x.f else lastF u f (l.take i) := by
  obtain ⟨h3, rfl⟩ := List.getElem?_eq_some_iff.1 hi
  unfold lastF
  rw [← List.take_append_getElem h3, List.foldl_append]; rfl
theorem lastF_none {u : ByteArray} : ∀ {l : List Tm} {f : Fl}, (∀ t ∈ l, t.user ≠ u) → lastF u f l = f
  | [], f, _ => rfl
  | a :: l, f, h => by
    show lastF u (if a.user = u then a.f else f) l = f
    rw [if_neg (h a (List.mem_cons_self ..)), lastF_none fun t ht => h t (List.mem_cons_of_mem _ ht)]
theorem lastF_find {u : ByteArray} : ∀ {l : List Tm} {f : Fl}, (l.map (·.user)).Nodup → lastF u f l = match l.find? fun t => decide (t.user = u) with
    | some t => t.f
    | none => f
  | [], f, _ => rfl
  | a :: l, f, h => by
    rw [List.map_cons, List.nodup_cons] at h
    show lastF u (if a.user = u then a.f else f) l = _
    rw [List.find?_cons]
    by_cases ha : a.user = u
    · rw [if_pos ha, decide_eq_true ha, lastF_none fun t ht e => h.1 (by rw [ha, ← e]; exact List.mem_map_of_mem ht)]
    · rw [if_neg ha, decide_eq_false ha]
      exact lastF_find h.2
theorem ltS_trans {a b c : ByteArray} (h1 : ltS a b = true) (h2 : ltS b c = true) : ltS a c = true := by
  unfold ltS at *
  exact decide_eq_true (List.lt_trans (of_decide_eq_true h1) (of_decide_eq_true h2))
theorem ltS_irrefl (a : ByteArray) : ltS a a = false := by unfold ltS; exact decide_eq_false (List.lt_irrefl _)
theorem listMay_lt {l : List Tm} (hm : listMay l = true) : ∀ (j i : Nat), i < j → j < l.length → ltS (tmAt l i).user (tmAt l j).user = true := by
  unfold listMay at hm
  simp only [Bool.and_eq_true, List.all_eq_true, List.mem_range] at hm
  intro j
  induction j with
  | zero => intro i h; omega
  | succ j ih =>
    intro i hij hj
    have := hm.1 (j + 1) hj
    unfold okAt at this
    simp only [Bool.and_eq_true, Bool.or_eq_true, decide_eq_true_eq, Nat.add_sub_cancel] at this
    have hs : ltS (tmAt l j).user (tmAt l (j + 1)).user = true := by
      rcases this.2 with h | h
      · omega
      · exact h
    by_cases hi : i = j
    · subst hi; exact hs
    · exact ltS_trans (ih i (by omega) (by omega)) hs
theorem listMay_nodup {l : List Tm} (hm : listMay l = true) : (l.map (·.user)).Nodup := by
  rw [List.Nodup, List.pairwise_iff_getElem]
  intro i j hi hj hij e
  rw [List.length_map] at hi hj
  have := listMay_lt hm j i hij hj
  rw [tmAt_eq (List.getElem?_eq_getElem hi), tmAt_eq (List.getElem?_eq_getElem hj)] at this
  simp only [List.getElem_map] at e
  rw [e, ltS_irrefl] at this; cases this
theorem refFind_eq {l : List Tm} (hm : listMay l = true) (u : ByteArray) : lastF u (lastF star noFl l) l = findF l u := by
  have hn := listMay_nodup hm
  rw [lastF_find hn, lastF_find hn]
  unfold findF
  rw [hm]
  rfl
theorem TmSl.addr {h : Hp} {v : Value} {l : List Tm} (s : TmSl h v l) {i : Nat} {x : Tm} (hi : l[i]? = some x) : ∃ b o all, evIndexAddr kon.P 30 v (.int .i64 i) = some (.pointer (some ⟨b, o, none⟩)) ∧ b < h.next ∧
    rowOf h b = some all ∧ all[o]? = some (.string x.user) ∧ decide (o + 4 ≤ all.length) = true ∧ (all.drop (o + 1)).take 3 = [.bool x.f.r, .bool x.f.w, .bool x.f.e] := by
  obtain ⟨b, o, all, h1, h2, h3, h4, h5⟩ := s.at hi
  refine ⟨b, o, all, h1, h2, h3, ?_, decide_eq_true h4, ?_⟩
  · have := congrArg (fun c : List Value => c[0]?) h5
    simpa [tmC] using this
  · have h6 : (all.drop (o + 1)).take 3 = ((all.drop o).take 4).drop 1 := by
      rw [List.drop_take, List.drop_drop]
    rw [h6, h5]; rfl
set_option maxHeartbeats 2000000 in
theorem refFind_spec {h : Hp} {v : Value} {l : List Tm} (s : TmSl h v l) (hl : l.length ≤ 1000000000) (u : ByteArray) :
    Meets kon 65 [v, .string u] h fun w h' => w = flV (findF l u) ∧ Keep h h' := by
  refine Meets.mk rfl (by kernel_rfl) Tryz.func65 rfl (congrArg Array.toList Tryz.results65) ?_
  repeat' (first | simp only [evr, nextP_norm, evd, evq, beq_self_eq_true, cond_true, cond_false, reduceIte, Nat.reduceEqDiff, Nat.reduceAdd, Int.reduceBNe, Int.reduceBEq, Int.reduceLT, Int.reduceLE, Int.reduceEq, evh, evp, Nat.reduceLeDiff, Nat.reduceSub, Nat.reduceBEq, typs] | refine kCond2_by (fun hc => ?_) (fun hc => ?_) <;> try simp only [hc] | refine kPick_by (fun hc => ?_) (fun hc => ?_) <;> try simp only [hc] | refine kWant_by (fun hc => ?_) (fun hc => ?_) <;> try simp only [hc])
  generalize hh : Hp.set _ (h.next + 1) _ = h1
  have z1 : h1.get h.next = some (.row [.bool false, .bool false, .bool false] 62 (.rw 0 [])) := by rw [← hh, Hp.get_set_ne (by omega), Hp.get_push_lt (Nat.lt_succ_self _)]; exact Hp.get_push_self _ _
  have x1 : h1.get (h.next + 1) = some (.row (flC noFl) 62 (.rw 0 [])) := by rw [← hh]; exact Hp.get_set_self _ _ _
  have k1 : Keep h h1 := by rw [← hh]; exact ((Keep.push _ _).pushed).set (Nat.le_succ _)
  have n1 : h1.next = h.next + 2 := by rw [← hh]; rfl
  clear hh
  have s1 : TmSl h1 v l := SlAt.keep s k1
  have hlm := (refListMay_spec s1 hl).call
  have la := s1.len
  have y1 := rowOf_rw x1
  unfold flC noFl at x1 y1
  cases hm : listMay l with
  | false =>
    rw [hm] at hlm
    repeat' (first | simp only [evr, nextP_norm, evd, evq, beq_self_eq_true, cond_true, cond_false, reduceIte, Nat.reduceEqDiff, Nat.reduceAdd, Int.reduceBNe, Int.reduceBEq, Int.reduceLT, Int.reduceLE, Int.reduceEq, evh, evp, Nat.reduceLeDiff, Nat.reduceSub, Nat.reduceBEq, typs, hlm, y1, x1, z1] | refine kCond2_by (fun hc => ?_) (fun hc => ?_) <;> try simp only [hc] | refine kPick_by (fun hc => ?_) (fun hc => ?_) <;> try simp only [hc] | refine kWant_by (fun hc => ?_) (fun hc => ?_) <;> try simp only [hc])
    refine ⟨?_, k1.set (Nat.le_refl _)⟩
    unfold findF; rw [hm]; rfl
  | true =>
    rw [hm] at hlm
    repeat' (first | simp only [evr, nextP_norm, evd, evq, beq_self_eq_true, cond_true, cond_false, reduceIte, Nat.reduceEqDiff, Nat.reduceAdd, Int.reduceBNe, Int.reduceBEq, Int.reduceLT, Int.reduceLE, Int.reduceEq, evh, evp, Nat.reduceLeDiff, Nat.reduceSub, Nat.reduceBEq, typs, hlm] | refine kCond2_by (fun hc => ?_) (fun hc => ?_) <;> try simp only [hc] | refine kPick_by (fun hc => ?_) (fun hc => ?_) <;> try simp only [hc] | refine kWant_by (fun hc => ?_) (fun hc => ?_) <;> try simp only [hc])
    -- the first loop
    have blt : ∀ {h' : Hp} {b : Nat}, Keep h h' → b < h.next → rowOf h' b = rowOf h b := fun k hb => k.row hb
    refine Wp_loop (fun k fr h' => Keep h h' ∧ h'.next = h1.next ∧ ∃ i : Nat, k = l.length - i ∧ i ≤ l.length ∧ fr.get 0 = some v ∧ fr.get 1 = some (.string u) ∧ fr.get 4 = some (.pointer (some ⟨h.next, 0, none⟩)) ∧ fr.get 5 = some (.pointer (some ⟨h.next + 1, 0, none⟩)) ∧ fr.get 6 = some (.int .i64 i) ∧
      h'.get h.next = some (.row [.bool false, .bool false, .bool false] 62 (.rw 0 [])) ∧ h'.get (h.next + 1) = some (.row (flC (lastF star noFl (l.take i))) 62 (.rw 0 []))) l.length ⟨k1, rfl, 0, rfl, Nat.zero_le _, ?_, ?_, ?_, ?_, ?_, z1, ?_⟩ ?_
    · repeat' (first | simp only [evr, nextP_norm, evd, evq, beq_self_eq_true, cond_true, cond_false, reduceIte, Nat.reduceEqDiff, Nat.reduceAdd, Int.reduceBNe, Int.reduceBEq, Int.reduceLT, Int.reduceLE, Int.reduceEq, evh, evp, Nat.reduceLeDiff, Nat.reduceSub, Nat.reduceBEq, typs] | refine kCond2_by (fun hc => ?_) (fun hc => ?_) <;> try simp only [hc] | refine kPick_by (fun hc => ?_) (fun hc => ?_) <;> try simp only [hc] | refine kWant_by (fun hc => ?_) (fun hc => ?_) <;> try simp only [hc])
    · repeat' (first | simp only [evr, nextP_norm, evd, evq, beq_self_eq_true, cond_true, cond_false, reduceIte, Nat.reduceEqDiff, Nat.reduceAdd, Int.reduceBNe, Int.reduceBEq, Int.reduceLT, Int.reduceLE, Int.reduceEq, evh, evp, Nat.reduceLeDiff, Nat.reduceSub, Nat.reduceBEq, typs] | refine kCond2_by (fun hc => ?_) (fun hc => ?_) <;> try simp only [hc] | refine kPick_by (fun hc => ?_) (fun hc => ?_) <;> try simp only [hc] | refine kWant_by (fun hc => ?_) (fun hc => ?_) <;> try simp only [hc])
    · repeat' (first | simp only [evr, nextP_norm, evd, evq, beq_self_eq_true, cond_true, cond_false, reduceIte, Nat.reduceEqDiff, Nat.reduceAdd, Int.reduceBNe, Int.reduceBEq, Int.reduceLT, Int.reduceLE, Int.reduceEq, evh, evp, Nat.reduceLeDiff, Nat.reduceSub, Nat.reduceBEq, typs] | refine kCond2_by (fun hc => ?_) (fun hc => ?_) <;> try simp only [hc] | refine kPick_by (fun hc => ?_) (fun hc => ?_) <;> try simp only [hc] | refine kWant_by (fun hc => ?_) (fun hc => ?_) <;> try simp only [hc])
    · repeat' (first | simp only [evr, nextP_norm, evd, evq, beq_self_eq_true, cond_true, cond_false, reduceIte, Nat.reduceEqDiff, Nat.reduceAdd, Int.reduceBNe, Int.reduceBEq, Int.reduceLT, Int.reduceLE, Int.reduceEq, evh, evp, Nat.reduceLeDiff, Nat.reduceSub, Nat.reduceBEq, typs] | refine kCond2_by (fun hc => ?_) (fun hc => ?_) <;> try simp only [hc] | refine kPick_by (fun hc => ?_) (fun hc => ?_) <;> try simp only [hc] | refine kWant_by (fun hc => ?_) (fun hc => ?_) <;> try simp only [hc])
    · repeat' (first | simp only [evr, nextP_norm, evd, evq, beq_self_eq_true, cond_true, cond_false, reduceIte, Nat.reduceEqDiff, Nat.reduceAdd, Int.reduceBNe, Int.reduceBEq, Int.reduceLT, Int.reduceLE, Int.reduceEq, evh, evp, Nat.reduceLeDiff, Nat.reduceSub, Nat.reduceBEq, typs] | refine kCond2_by (fun hc => ?_) (fun hc => ?_) <;> try simp only [hc] | refine kPick_by (fun hc => ?_) (fun hc => ?_) <;> try simp only [hc] | refine kWant_by (fun hc => ?_) (fun hc => ?_) <;> try simp only [hc])
      rfl
    · rw [x1]; rfl
    rintro k fr h' ⟨hk, hn, i, rfl, hi, g0, g1, g4, g5, g6, z, xx⟩
    have s2 : TmSl h' v l := SlAt.keep s hk
    have la := s2.len
    by_cases h3 : i < l.length
    · have e3 : decide ((i : Int) < l.length) = true := by simp; omega
      obtain ⟨x, hx⟩ : ∃ x, l[i]? = some x := ⟨_, List.getElem?_eq_getElem h3⟩
      obtain ⟨b, o, all, ha, hb, hr, hu, hd, hf⟩ := TmSl.addr s2 hx
      have w1 := wrap64 (x := (i : Int) + 1) (by omega) (by omega)
      have hls := lastF_snoc (u := star) (f := noFl) hx
      by_cases hxu : x.user = star
      · have e4 : decide (x.user = (ByteArray.mk #[42])) = true := decide_eq_true hxu
        rw [if_pos hxu] at hls
        unfold flC at xx
        repeat' (first | simp only [evr, nextP_norm, evd, evq, beq_self_eq_true, cond_true, cond_false, reduceIte, Nat.reduceEqDiff, Nat.reduceAdd, Int.reduceBNe, Int.reduceBEq, Int.reduceLT, Int.reduceLE, Int.reduceEq, evh, evp, Nat.reduceLeDiff, Nat.reduceSub, Nat.reduceBEq, typs, la, g0, g1, g4, g5, g6, e3, ha, hr, hu, hd, hf, e4, w1, xx] | refine kCond2_by (fun hc => ?_) (fun hc => ?_) <;> try simp only [hc] | refine kPick_by (fun hc => ?_) (fun hc => ?_) <;> try simp only [hc] | refine kWant_by (fun hc => ?_) (fun hc => ?_) <;> try simp only [hc])
        refine ⟨l.length - (i + 1), by omega, hk.set (by omega), hn, i + 1, rfl, by omega, rfl, ?_, ?_⟩
        · exact z
        · rw [hls]; rfl
      · have e4 : decide (x.user = (ByteArray.mk #[42])) = false := decide_eq_false hxu
        rw [if_neg hxu] at hls
        repeat' (first | simp only [evr, nextP_norm, evd, evq, beq_self_eq_true, cond_true, cond_false, reduceIte, Nat.reduceEqDiff, Nat.reduceAdd, Int.reduceBNe, Int.reduceBEq, Int.reduceLT, Int.reduceLE, Int.reduceEq, evh, evp, Nat.reduceLeDiff, Nat.reduceSub, Nat.reduceBEq, typs, la, g0, g1, g4, g5, g6, e3, ha, hr, hu, hd, hf, e4, w1] | refine kCond2_by (fun hc => ?_) (fun hc => ?_) <;> try simp only [hc] | refine kPick_by (fun hc => ?_) (fun hc => ?_) <;> try simp only [hc] | refine kWant_by (fun hc => ?_) (fun hc => ?_) <;> try simp only [hc])
        exact ⟨l.length - (i + 1), by omega, hk, hn, i + 1, rfl, by omega, rfl, z, by rw [hls]; exact xx⟩
    · have e3 : decide ((i : Int) < l.length) = false := by simp; omega
      have hi2 : i = l.length := by omega
      subst hi2
      rw [List.take_length] at xx
      repeat' (first | simp only [evr, nextP_norm, evd, evq, beq_self_eq_true, cond_true, cond_false, reduceIte, Nat.reduceEqDiff, Nat.reduceAdd, Int.reduceBNe, Int.reduceBEq, Int.reduceLT, Int.reduceLE, Int.reduceEq, evh, evp, Nat.reduceLeDiff, Nat.reduceSub, Nat.reduceBEq, typs, la, g0, g1, g4, g5, g6, e3] | refine kCond2_by (fun hc => ?_) (fun hc => ?_) <;> try simp only [hc] | refine kPick_by (fun hc => ?_) (fun hc => ?_) <;> try simp only [hc] | refine kWant_by (fun hc => ?_) (fun hc => ?_) <;> try simp only [hc])
      refine Wp_loop (fun k fr h' => Keep h h' ∧ h'.next = h1.next ∧ ∃ i : Nat, k = l.length - i ∧ i ≤ l.length ∧ fr.get 0 = some v ∧ fr.get 1 = some (.string u) ∧ fr.get 4 = some (.pointer (some ⟨h.next, 0, none⟩)) ∧ fr.get 5 = some (.pointer (some ⟨h.next + 1, 0, none⟩)) ∧ fr.get 7 = some (.int .i64 i) ∧
        h'.get h.next = some (.row [.bool false, .bool false, .bool false] 62 (.rw 0 [])) ∧ h'.get (h.next + 1) = some (.row (flC (lastF u (lastF star noFl l) (l.take i))) 62 (.rw 0 []))) l.length ⟨hk, hn, 0, rfl, Nat.zero_le _, ?_, ?_, ?_, ?_, ?_, z, ?_⟩ ?_
      · repeat' (first | simp only [evr, nextP_norm, evd, evq, beq_self_eq_true, cond_true, cond_false, reduceIte, Nat.reduceEqDiff, Nat.reduceAdd, Int.reduceBNe, Int.reduceBEq, Int.reduceLT, Int.reduceLE, Int.reduceEq, evh, evp, Nat.reduceLeDiff, Nat.reduceSub, Nat.reduceBEq, typs, g0] | refine kCond2_by (fun hc => ?_) (fun hc => ?_) <;> try simp only [hc] | refine kPick_by (fun hc => ?_) (fun hc => ?_) <;> try simp only [hc] | refine kWant_by (fun hc => ?_) (fun hc => ?_) <;> try simp only [hc])
      · repeat' (first | simp only [evr, nextP_norm, evd, evq, beq_self_eq_true, cond_true, cond_false, reduceIte, Nat.reduceEqDiff, Nat.reduceAdd, Int.reduceBNe, Int.reduceBEq, Int.reduceLT, Int.reduceLE, Int.reduceEq, evh, evp, Nat.reduceLeDiff, Nat.reduceSub, Nat.reduceBEq, typs, g1] | refine kCond2_by (fun hc => ?_) (fun hc => ?_) <;> try simp only [hc] | refine kPick_by (fun hc => ?_) (fun hc => ?_) <;> try simp only [hc] | refine kWant_by (fun hc => ?_) (fun hc => ?_) <;> try simp only [hc])
      · repeat' (first | simp only [evr, nextP_norm, evd, evq, beq_self_eq_true, cond_true, cond_false, reduceIte, Nat.reduceEqDiff, Nat.reduceAdd, Int.reduceBNe, Int.reduceBEq, Int.reduceLT, Int.reduceLE, Int.reduceEq, evh, evp, Nat.reduceLeDiff, Nat.reduceSub, Nat.reduceBEq, typs, g4] | refine kCond2_by (fun hc => ?_) (fun hc => ?_) <;> try simp only [hc] | refine kPick_by (fun hc => ?_) (fun hc => ?_) <;> try simp only [hc] | refine kWant_by (fun hc => ?_) (fun hc => ?_) <;> try simp only [hc])
      · repeat' (first | simp only [evr, nextP_norm, evd, evq, beq_self_eq_true, cond_true, cond_false, reduceIte, Nat.reduceEqDiff, Nat.reduceAdd, Int.reduceBNe, Int.reduceBEq, Int.reduceLT, Int.reduceLE, Int.reduceEq, evh, evp, Nat.reduceLeDiff, Nat.reduceSub, Nat.reduceBEq, typs, g5] | refine kCond2_by (fun hc => ?_) (fun hc => ?_) <;> try simp only [hc] | refine kPick_by (fun hc => ?_) (fun hc => ?_) <;> try simp only [hc] | refine kWant_by (fun hc => ?_) (fun hc => ?_) <;> try simp only [hc])
      · repeat' (first | simp only [evr, nextP_norm, evd, evq, beq_self_eq_true, cond_true, cond_false, reduceIte, Nat.reduceEqDiff, Nat.reduceAdd, Int.reduceBNe, Int.reduceBEq, Int.reduceLT, Int.reduceLE, Int.reduceEq, evh, evp, Nat.reduceLeDiff, Nat.reduceSub, Nat.reduceBEq, typs] | refine kCond2_by (fun hc => ?_) (fun hc => ?_) <;> try simp only [hc] | refine kPick_by (fun hc => ?_) (fun hc => ?_) <;> try simp only [hc] | refine kWant_by (fun hc => ?_) (fun hc => ?_) <;> try simp only [hc])
        rfl
      · exact xx
      rintro k fr h' ⟨hk, hn, i, rfl, hi, g0, g1, g4, g5, g7, z, xx⟩
      have s2 : TmSl h' v l := SlAt.keep s hk
      have la := s2.len
      by_cases h3 : i < l.length
      · have e3 : decide ((i : Int) < l.length) = true := by simp; omega
        obtain ⟨x, hx⟩ : ∃ x, l[i]? = some x := ⟨_, List.getElem?_eq_getElem h3⟩
        obtain ⟨b, o, all, ha, hb, hr, hu, hd, hf⟩ := TmSl.addr s2 hx
        have w1 := wrap64 (x := (i : Int) + 1) (by omega) (by omega)
        have hls := lastF_snoc (u := u) (f := lastF star noFl l) hx
        by_cases hxu : x.user = u
        · have e4 : decide (x.user = u) = true := decide_eq_true hxu
          rw [if_pos hxu] at hls
          unfold flC at xx
          repeat' (first | simp only [evr, nextP_norm, evd, evq, beq_self_eq_true, cond_true, cond_false, reduceIte, Nat.reduceEqDiff, Nat.reduceAdd, Int.reduceBNe, Int.reduceBEq, Int.reduceLT, Int.reduceLE, Int.reduceEq, evh, evp, Nat.reduceLeDiff, Nat.reduceSub, Nat.reduceBEq, typs, la, g0, g1, g4, g5, g7, e3, ha, hr, hu, hd, hf, e4, w1, xx] | refine kCond2_by (fun hc => ?_) (fun hc => ?_) <;> try simp only [hc] | refine kPick_by (fun hc => ?_) (fun hc => ?_) <;> try simp only [hc] | refine kWant_by (fun hc => ?_) (fun hc => ?_) <;> try simp only [hc])
          refine ⟨l.length - (i + 1), by omega, hk.set (by omega), hn, i + 1, rfl, by omega, rfl, ?_, ?_⟩
          · exact z
          · rw [hls]; rfl
        · have e4 : decide (x.user = u) = false := decide_eq_false hxu
          rw [if_neg hxu] at hls
          repeat' (first | simp only [evr, nextP_norm, evd, evq, beq_self_eq_true, cond_true, cond_false, reduceIte, Nat.reduceEqDiff, Nat.reduceAdd, Int.reduceBNe, Int.reduceBEq, Int.reduceLT, Int.reduceLE, Int.reduceEq, evh, evp, Nat.reduceLeDiff, Nat.reduceSub, Nat.reduceBEq, typs, la, g0, g1, g4, g5, g7, e3, ha, hr, hu, hd, hf, e4, w1] | refine kCond2_by (fun hc => ?_) (fun hc => ?_) <;> try simp only [hc] | refine kPick_by (fun hc => ?_) (fun hc => ?_) <;> try simp only [hc] | refine kWant_by (fun hc => ?_) (fun hc => ?_) <;> try simp only [hc])
          exact ⟨l.length - (i + 1), by omega, hk, hn, i + 1, rfl, by omega, rfl, z, by rw [hls]; exact xx⟩
      · have e3 : decide ((i : Int) < l.length) = false := by simp; omega
        have hi2 : i = l.length := by omega
        subst hi2
        rw [List.take_length, refFind_eq hm] at xx
        unfold flC at xx
        repeat' (first | simp only [evr, nextP_norm, evd, evq, beq_self_eq_true, cond_true, cond_false, reduceIte, Nat.reduceEqDiff, Nat.reduceAdd, Int.reduceBNe, Int.reduceBEq, Int.reduceLT, Int.reduceLE, Int.reduceEq, evh, evp, Nat.reduceLeDiff, Nat.reduceSub, Nat.reduceBEq, typs, la, g0, g1, g4, g5, g7, e3, xx, rowOf_rw xx, z] | refine kCond2_by (fun hc => ?_) (fun hc => ?_) <;> try simp only [hc] | refine kPick_by (fun hc => ?_) (fun hc => ?_) <;> try simp only [hc] | refine kWant_by (fun hc => ?_) (fun hc => ?_) <;> try simp only [hc])
        exact ⟨rfl, hk.set (Nat.le_refl _)⟩
end Go.Proofs.YtncmgiddcefpcaaGreatDoor
namespace Go.Proofs.YtncmgiddcefpcaaGreatDoor
open Go Go.Ev Go.Con
set_option linter.unusedSimpArgs false
set_option linter.unusedVariables false
set_option maxRecDepth 100000
section
variable {h : Hp} {c : Nat → Nat} {T : Hi} {br : Nat} {vB vL vD : Value} {cs : List Value}
set_option maxHeartbeats 4000000 in
theorem rjfine_spec (r : RefB h c T br vB vL vD cs) (ok : T.Ok) (hL : T.L.length ≤ 1000000000) {us : List ByteArray} {vu : Value} (su : StrSl h vu us) (hu : us.length ≤ 1000000000) (m : Mk) (hac : ∀ b, T.byUID m.uid = some b → b.acl.length ≤ 1000000000) :
    Meets kon 31 [ptrV br, vu, .agg (mkC m).toArray] h fun v h' => v = .bool (jFine T us m) ∧ Keep h h' := by
  have ls := su.len
  unfold mkC ptrV
  refine Meets.mk rfl (by kernel_rfl) Tryz.func31 rfl (congrArg Array.toList Tryz.results31) ?_
  repeat' (first | simp only [evr, nextP_norm, evd, evq, beq_self_eq_true, cond_true, cond_false, reduceIte, Nat.reduceEqDiff, Nat.reduceAdd, Int.reduceBNe, Int.reduceBEq, Int.reduceLT, Int.reduceLE, Int.reduceEq, evh, evp, Nat.reduceLeDiff, Nat.reduceSub, Nat.reduceBEq, typs] | refine kCond2_by (fun hc => ?_) (fun hc => ?_) <;> try simp only [hc] | refine kPick_by (fun hc => ?_) (fun hc => ?_) <;> try simp only [hc] | refine kWant_by (fun hc => ?_) (fun hc => ?_) <;> try simp only [hc])
  generalize hh : Hp.push h _ = H
  have g3 : H.get h.next = some (.row [.int .i64 m.proc, .int .i64 m.kind, .int .i64 m.uid, .int .i64 m.off, .int .i64 m.at_, .int .i64 m.before, .int .i64 m.after] 60 (.rw 0 [])) := by rw [← hh]; exact Hp.get_push_self _ _
  have hk : Keep h H := by rw [← hh]; exact Keep.push _ _
  have hx : H.next = h.next + 1 := by rw [← hh]; rfl
  clear hh
  have q3 := rowOf_rw g3
  repeat' (first | simp only [evr, nextP_norm, evd, evq, beq_self_eq_true, cond_true, cond_false, reduceIte, Nat.reduceEqDiff, Nat.reduceAdd, Int.reduceBNe, Int.reduceBEq, Int.reduceLT, Int.reduceLE, Int.reduceEq, evh, evp, Nat.reduceLeDiff, Nat.reduceSub, Nat.reduceBEq, typs, q3] | refine kCond2_by (fun hc => ?_) (fun hc => ?_) <;> try simp only [hc] | refine kPick_by (fun hc => ?_) (fun hc => ?_) <;> try simp only [hc] | refine kWant_by (fun hc => ?_) (fun hc => ?_) <;> try simp only [hc])
  refine callP_meets (rByUID_spec (r.keeps hk) ok hL m.uid) ?_
  rintro v H1 ⟨k1, hv⟩
  have K1 := hk.trans k1
  have q3 := rowOf_rw ((k1.2 _ (by omega)).trans g3)
  have n1 := k1.1
  have ne : (h.next = H1.next) = False := by simp; omega
  unfold jFine
  cases hb : T.byUID m.uid with
  | none =>
    rw [hb] at hv
    simp only at hv
    subst hv
    rw [noBn_row]
    repeat' (first | simp only [evr, nextP_norm, evd, evq, beq_self_eq_true, cond_true, cond_false, reduceIte, Nat.reduceEqDiff, Nat.reduceAdd, Int.reduceBNe, Int.reduceBEq, Int.reduceLT, Int.reduceLE, Int.reduceEq, evh, evp, Nat.reduceLeDiff, Nat.reduceSub, Nat.reduceBEq, typs, q3] | refine kCond2_by (fun hc => ?_) (fun hc => ?_) <;> try simp only [hc] | refine kPick_by (fun hc => ?_) (fun hc => ?_) <;> try simp only [hc] | refine kWant_by (fun hc => ?_) (fun hc => ?_) <;> try simp only [hc])
    exact K1.pushed.set K1.1
  | some b =>
    rw [hb] at hv
    obtain ⟨sl, rfl, hty⟩ := hv
    unfold bnC
    have z1 := SlTy.isCell hty
    have z2 := SlTy.cellsV hty
    by_cases hp : m.proc < 0
    · have f1 : decide (m.proc < 0) = true := decide_eq_true hp
      repeat' (first | simp only [evr, nextP_norm, evd, evq, beq_self_eq_true, cond_true, cond_false, reduceIte, Nat.reduceEqDiff, Nat.reduceAdd, Int.reduceBNe, Int.reduceBEq, Int.reduceLT, Int.reduceLE, Int.reduceEq, evh, evp, Nat.reduceLeDiff, Nat.reduceSub, Nat.reduceBEq, typs, q3, z1, z2, f1, ne] | refine kCond2_by (fun hc => ?_) (fun hc => ?_) <;> try simp only [hc] | refine kPick_by (fun hc => ?_) (fun hc => ?_) <;> try simp only [hc] | refine kWant_by (fun hc => ?_) (fun hc => ?_) <;> try simp only [hc])
      first | exact K1.pushed.set K1.1 | exact ⟨by rw [if_pos hp], K1.pushed.set K1.1⟩
    · have f1 : decide (m.proc < 0) = false := decide_eq_false hp
      cases hu2 : us[m.proc.toNat]? with
      | none =>
        have : us.length ≤ m.proc.toNat := List.getElem?_eq_none_iff.1 hu2
        have f2 : decide ((us.length : Int) ≤ m.proc) = true := decide_eq_true (by omega)
        repeat' (first | simp only [evr, nextP_norm, evd, evq, beq_self_eq_true, cond_true, cond_false, reduceIte, Nat.reduceEqDiff, Nat.reduceAdd, Int.reduceBNe, Int.reduceBEq, Int.reduceLT, Int.reduceLE, Int.reduceEq, evh, evp, Nat.reduceLeDiff, Nat.reduceSub, Nat.reduceBEq, typs, q3, z1, z2, f1, f2, ls, ne] | refine kCond2_by (fun hc => ?_) (fun hc => ?_) <;> try simp only [hc] | refine kPick_by (fun hc => ?_) (fun hc => ?_) <;> try simp only [hc] | refine kWant_by (fun hc => ?_) (fun hc => ?_) <;> try simp only [hc])
        first | exact K1.pushed.set K1.1 | exact ⟨by rw [if_neg hp], K1.pushed.set K1.1⟩
      | some u =>
        have hlt : m.proc.toNat < us.length := (List.getElem?_eq_some_iff.1 hu2).1
        have f2 : decide ((us.length : Int) ≤ m.proc) = false := decide_eq_false (by omega)
        repeat' (first | simp only [evr, nextP_norm, evd, evq, beq_self_eq_true, cond_true, cond_false, reduceIte, Nat.reduceEqDiff, Nat.reduceAdd, Int.reduceBNe, Int.reduceBEq, Int.reduceLT, Int.reduceLE, Int.reduceEq, evh, evp, Nat.reduceLeDiff, Nat.reduceSub, Nat.reduceBEq, typs, q3, z1, z2, f1, f2, ls, ne] | refine kCond2_by (fun hc => ?_) (fun hc => ?_) <;> try simp only [hc] | refine kPick_by (fun hc => ?_) (fun hc => ?_) <;> try simp only [hc] | refine kWant_by (fun hc => ?_) (fun hc => ?_) <;> try simp only [hc])
        generalize hh : Hp.set _ _ _ = H2
        have gb : H2.get H1.next = some (.row [.int .i64 b.kind, .int .i64 b.uid, .int .i64 b.dir, .string b.link, .bool b.object, sl, .int .i64 b.b.r1, .int .i64 b.b.r2, .int .i64 b.b.r3, .int .i64 b.b.g] 34 (.rw 0 [])) := by rw [← hh]; exact Hp.get_set_self _ _ _
        have k2 : Keep H1 H2 := by rw [← hh]; exact (Keep.push _ _).set (Nat.le_refl _)
        have n2 : H2.next = H1.next + 1 := by rw [← hh]; rfl
        clear hh
        obtain ⟨b4, o4, all4, hia4, hr4, c4⟩ := StrSl.at2 (SlAt.keep su (K1.trans k2)) hu2
        rw [show ((m.proc.toNat : Nat) : Int) = m.proc by omega] at hia4
        have qm := rowOf_rw ((k2.2 _ (by omega)).trans ((k1.2 _ (by omega)).trans g3))
        have qb := rowOf_rw gb
        refine Wp_drawE [0, 1, 0, 0, 1, 0, 1, 4, 2, 4] (KR.mk (by kernel_rfl)) ?_
        repeat' (first | simp only [evr, nextP_norm, evd, evq, beq_self_eq_true, cond_true, cond_false, reduceIte, Nat.reduceEqDiff, Nat.reduceAdd, Int.reduceBNe, Int.reduceBEq, Int.reduceLT, Int.reduceLE, Int.reduceEq, evh, evp, Nat.reduceLeDiff, Nat.reduceSub, Nat.reduceBEq, typs, qm, qb, hia4, hr4, c4] | refine kCond2_by (fun hc => ?_) (fun hc => ?_) <;> try simp only [hc] | refine kPick_by (fun hc => ?_) (fun hc => ?_) <;> try simp only [hc] | refine kWant_by (fun hc => ?_) (fun hc => ?_) <;> try simp only [hc])
        refine callP_meets (refFind_spec (SlAt.keep hty.slAt k2) (hac b hb) u) ?_
        rintro _ H3 ⟨rfl, k3⟩
        have n3 := k3.1
        have qm := rowOf_rw ((k3.2 _ (by omega)).trans ((k2.2 _ (by omega)).trans ((k1.2 _ (by omega)).trans g3)))
        have qb := rowOf_rw ((k3.2 _ (by omega)).trans gb)
        generalize findF b.acl u = f at *
        unfold flV
        have ne2 : (h.next = H3.next) = False := by simp; omega
        repeat' (first | simp only [evr, nextP_norm, evd, evq, beq_self_eq_true, cond_true, cond_false, reduceIte, Nat.reduceEqDiff, Nat.reduceAdd, Int.reduceBNe, Int.reduceBEq, Int.reduceLT, Int.reduceLE, Int.reduceEq, evh, evp, Nat.reduceLeDiff, Nat.reduceSub, Nat.reduceBEq, typs, qm, qb, hia4, hr4, c4] | refine kCond2_by (fun hc => ?_) (fun hc => ?_) <;> try simp only [hc] | refine kPick_by (fun hc => ?_) (fun hc => ?_) <;> try simp only [hc] | refine kWant_by (fun hc => ?_) (fun hc => ?_) <;> try simp only [hc])
        generalize hh : Hp.set _ _ _ = H4
        have gf : H4.get H3.next = some (.row [.bool f.r, .bool f.w, .bool f.e] 62 (.rw 0 [])) := by rw [← hh]; exact Hp.get_set_self _ _ _
        have k4 : Keep H3 H4 := by rw [← hh]; exact (Keep.push _ _).set (Nat.le_refl _)
        have n4 : H4.next = H3.next + 1 := by rw [← hh]; rfl
        have em : (if h.next = H3.next then some [Value.bool f.r, .bool f.w, .bool f.e] else if h.next = H3.next then some [Value.bool false, .bool false, .bool false] else some [.int .i64 m.proc, .int .i64 m.kind, .int .i64 m.uid, .int .i64 m.off, .int .i64 m.at_, .int .i64 m.before, .int .i64 m.after]) =
          some [.int .i64 m.proc, .int .i64 m.kind, .int .i64 m.uid, .int .i64 m.off, .int .i64 m.at_, .int .i64 m.before, .int .i64 m.after] := by rw [if_neg (by omega), if_neg (by omega)]
        have gm4 : H4.get h.next = _ := (k4.2 _ (by omega)).trans ((k3.2 _ (by omega)).trans ((k2.2 _ (by omega)).trans ((k1.2 _ (by omega)).trans g3)))
        have gb4 : H4.get H1.next = _ := (k4.2 _ (by omega)).trans ((k3.2 _ (by omega)).trans gb)
        clear hh
        have K4 : Keep h H4 := ((K1.trans k2).trans k3).trans k4
        have qm4 := rowOf_rw gm4
        have qb4 := rowOf_rw gb4
        have qf4 := rowOf_rw gf
        have X : ∀ {fn : Nat} {vs : List Value} {P : Value → Prop} {a b c : Ob}, Meets kon fn vs H4 (fun v h' => P v ∧ h' = ((H4.push a).push b).push c) → Meets kon fn vs H4 fun v h' => P v ∧ Keep H4 h' := fun s => s.mono fun v h' hv => ⟨hv.1, by rw [hv.2]; exact ((Keep.push _ _).pushed).pushed⟩
        rw [if_neg hp]
        unfold jKind
        by_cases c1 : m.kind = 1
        · have f3 : (m.kind == 1) = true := by simp [c1]
          rcases Bool.eq_false_or_eq_true (m.at_ == m.before) with fe | fe
          · repeat' (first | simp only [evr, nextP_norm, evd, evq, beq_self_eq_true, cond_true, cond_false, reduceIte, Nat.reduceEqDiff, Nat.reduceAdd, Int.reduceBNe, Int.reduceBEq, Int.reduceLT, Int.reduceLE, Int.reduceEq, evh, evp, Nat.reduceLeDiff, Nat.reduceSub, Nat.reduceBEq, typs, em, ne2, qm4, qb4, qf4, f3, fe] | refine kCond2_by (fun hc => ?_) (fun hc => ?_) <;> try simp only [hc] | refine kPick_by (fun hc => ?_) (fun hc => ?_) <;> try simp only [hc] | refine kWant_by (fun hc => ?_) (fun hc => ?_) <;> try simp only [hc])
            refine callP_meets (X (P := fun v => v = .int .i64 (doE 1 b.b f m.at_)) (rDoX 1 b.b f m.at_ H4)) ?_
            rintro _ H5 ⟨rfl, k5⟩
            repeat' (first | simp only [evr, nextP_norm, evd, evq, beq_self_eq_true, cond_true, cond_false, reduceIte, Nat.reduceEqDiff, Nat.reduceAdd, Int.reduceBNe, Int.reduceBEq, Int.reduceLT, Int.reduceLE, Int.reduceEq, evh, evp, Nat.reduceLeDiff, Nat.reduceSub, Nat.reduceBEq, typs] | refine kCond2_by (fun hc => ?_) (fun hc => ?_) <;> try simp only [hc] | refine kPick_by (fun hc => ?_) (fun hc => ?_) <;> try simp only [hc] | refine kWant_by (fun hc => ?_) (fun hc => ?_) <;> try simp only [hc])
            exact ⟨by rw [if_pos c1] <;> rfl, K4.trans k5⟩
          · repeat' (first | simp only [evr, nextP_norm, evd, evq, beq_self_eq_true, cond_true, cond_false, reduceIte, Nat.reduceEqDiff, Nat.reduceAdd, Int.reduceBNe, Int.reduceBEq, Int.reduceLT, Int.reduceLE, Int.reduceEq, evh, evp, Nat.reduceLeDiff, Nat.reduceSub, Nat.reduceBEq, typs, em, ne2, qm4, qb4, qf4, f3, fe] | refine kCond2_by (fun hc => ?_) (fun hc => ?_) <;> try simp only [hc] | refine kPick_by (fun hc => ?_) (fun hc => ?_) <;> try simp only [hc] | refine kWant_by (fun hc => ?_) (fun hc => ?_) <;> try simp only [hc])
            exact ⟨by rw [if_pos c1, Bool.and_false] <;> rfl, K4⟩
        have f3 : (m.kind == 1) = false := by simp [c1]
        rw [if_neg c1]
        by_cases c2 : m.kind = 2
        · have f4 : (m.kind == 2) = true := by simp [c2]
          repeat' (first | simp only [evr, nextP_norm, evd, evq, beq_self_eq_true, cond_true, cond_false, reduceIte, Nat.reduceEqDiff, Nat.reduceAdd, Int.reduceBNe, Int.reduceBEq, Int.reduceLT, Int.reduceLE, Int.reduceEq, evh, evp, Nat.reduceLeDiff, Nat.reduceSub, Nat.reduceBEq, typs, em, ne2, qm4, qb4, qf4, f3, f4] | refine kCond2_by (fun hc => ?_) (fun hc => ?_) <;> try simp only [hc] | refine kPick_by (fun hc => ?_) (fun hc => ?_) <;> try simp only [hc] | refine kWant_by (fun hc => ?_) (fun hc => ?_) <;> try simp only [hc])
          refine callP_meets (X (P := fun v => v = .int .i64 (doE 2 b.b f m.at_)) (rDoX 2 b.b f m.at_ H4)) ?_
          rintro _ H5 ⟨rfl, k5⟩
          repeat' (first | simp only [evr, nextP_norm, evd, evq, beq_self_eq_true, cond_true, cond_false, reduceIte, Nat.reduceEqDiff, Nat.reduceAdd, Int.reduceBNe, Int.reduceBEq, Int.reduceLT, Int.reduceLE, Int.reduceEq, evh, evp, Nat.reduceLeDiff, Nat.reduceSub, Nat.reduceBEq, typs] | refine kCond2_by (fun hc => ?_) (fun hc => ?_) <;> try simp only [hc] | refine kPick_by (fun hc => ?_) (fun hc => ?_) <;> try simp only [hc] | refine kWant_by (fun hc => ?_) (fun hc => ?_) <;> try simp only [hc])
          exact ⟨by rw [if_pos c2] <;> rfl, K4.trans k5⟩
        have f4 : (m.kind == 2) = false := by simp [c2]
        rw [if_neg c2]
        by_cases c3 : m.kind = 3
        · have f5 : (m.kind == 3) = true := by simp [c3]
          rcases Bool.eq_false_or_eq_true b.object with fe | fe
          · repeat' (first | simp only [evr, nextP_norm, evd, evq, beq_self_eq_true, cond_true, cond_false, reduceIte, Nat.reduceEqDiff, Nat.reduceAdd, Int.reduceBNe, Int.reduceBEq, Int.reduceLT, Int.reduceLE, Int.reduceEq, evh, evp, Nat.reduceLeDiff, Nat.reduceSub, Nat.reduceBEq, typs, em, ne2, qm4, qb4, qf4, f3, f4, f5, fe] | refine kCond2_by (fun hc => ?_) (fun hc => ?_) <;> try simp only [hc] | refine kPick_by (fun hc => ?_) (fun hc => ?_) <;> try simp only [hc] | refine kWant_by (fun hc => ?_) (fun hc => ?_) <;> try simp only [hc])
            exact ⟨by rw [if_pos c3, Bool.and_false], K4⟩
          · repeat' (first | simp only [evr, nextP_norm, evd, evq, beq_self_eq_true, cond_true, cond_false, reduceIte, Nat.reduceEqDiff, Nat.reduceAdd, Int.reduceBNe, Int.reduceBEq, Int.reduceLT, Int.reduceLE, Int.reduceEq, evh, evp, Nat.reduceLeDiff, Nat.reduceSub, Nat.reduceBEq, typs, em, ne2, qm4, qb4, qf4, f3, f4, f5, fe] | refine kCond2_by (fun hc => ?_) (fun hc => ?_) <;> try simp only [hc] | refine kPick_by (fun hc => ?_) (fun hc => ?_) <;> try simp only [hc] | refine kWant_by (fun hc => ?_) (fun hc => ?_) <;> try simp only [hc])
            refine callP_meets (X (P := fun v => v = .int .i64 (doE 3 b.b f m.at_)) (rDoX 3 b.b f m.at_ H4)) ?_
            rintro _ H5 ⟨rfl, k5⟩
            repeat' (first | simp only [evr, nextP_norm, evd, evq, beq_self_eq_true, cond_true, cond_false, reduceIte, Nat.reduceEqDiff, Nat.reduceAdd, Int.reduceBNe, Int.reduceBEq, Int.reduceLT, Int.reduceLE, Int.reduceEq, evh, evp, Nat.reduceLeDiff, Nat.reduceSub, Nat.reduceBEq, typs] | refine kCond2_by (fun hc => ?_) (fun hc => ?_) <;> try simp only [hc] | refine kPick_by (fun hc => ?_) (fun hc => ?_) <;> try simp only [hc] | refine kWant_by (fun hc => ?_) (fun hc => ?_) <;> try simp only [hc])
            exact ⟨by rw [if_pos c3] <;> rfl, K4.trans k5⟩
        have f5 : (m.kind == 3) = false := by simp [c3]
        rw [if_neg c3]
        by_cases c4' : m.kind = 4
        · have f6 : (m.kind == 4) = true := by simp [c4']
          repeat' (first | simp only [evr, nextP_norm, evd, evq, beq_self_eq_true, cond_true, cond_false, reduceIte, Nat.reduceEqDiff, Nat.reduceAdd, Int.reduceBNe, Int.reduceBEq, Int.reduceLT, Int.reduceLE, Int.reduceEq, evh, evp, Nat.reduceLeDiff, Nat.reduceSub, Nat.reduceBEq, typs, em, ne2, qm4, qb4, qf4, f3, f4, f5, f6] | refine kCond2_by (fun hc => ?_) (fun hc => ?_) <;> try simp only [hc] | refine kPick_by (fun hc => ?_) (fun hc => ?_) <;> try simp only [hc] | refine kWant_by (fun hc => ?_) (fun hc => ?_) <;> try simp only [hc])
          refine callP_meets (X (P := fun v => v = .tuple #[.int .i64 (callE b.b f m.at_ m.off).1, .int .i64 (callE b.b f m.at_ m.off).2]) (rCallX b.b f m.at_ m.off H4)) ?_
          rintro _ H5 ⟨rfl, k5⟩
          have qm5 := rowOf_rw ((k5.2 _ (by omega)).trans gm4)
          rcases Bool.eq_false_or_eq_true ((callE b.b f m.at_ m.off).2 == 0) with fe | fe
          · repeat' (first | simp only [evr, nextP_norm, evd, evq, beq_self_eq_true, cond_true, cond_false, reduceIte, Nat.reduceEqDiff, Nat.reduceAdd, Int.reduceBNe, Int.reduceBEq, Int.reduceLT, Int.reduceLE, Int.reduceEq, evh, evp, Nat.reduceLeDiff, Nat.reduceSub, Nat.reduceBEq, typs, qm5, fe] | refine kCond2_by (fun hc => ?_) (fun hc => ?_) <;> try simp only [hc] | refine kPick_by (fun hc => ?_) (fun hc => ?_) <;> try simp only [hc] | refine kWant_by (fun hc => ?_) (fun hc => ?_) <;> try simp only [hc])
            exact ⟨by rw [if_pos c4'] <;> rfl, K4.trans k5⟩
          · repeat' (first | simp only [evr, nextP_norm, evd, evq, beq_self_eq_true, cond_true, cond_false, reduceIte, Nat.reduceEqDiff, Nat.reduceAdd, Int.reduceBNe, Int.reduceBEq, Int.reduceLT, Int.reduceLE, Int.reduceEq, evh, evp, Nat.reduceLeDiff, Nat.reduceSub, Nat.reduceBEq, typs, qm5, fe] | refine kCond2_by (fun hc => ?_) (fun hc => ?_) <;> try simp only [hc] | refine kPick_by (fun hc => ?_) (fun hc => ?_) <;> try simp only [hc] | refine kWant_by (fun hc => ?_) (fun hc => ?_) <;> try simp only [hc])
            exact ⟨by rw [if_pos c4'] <;> rfl, K4.trans k5⟩
        have f6 : (m.kind == 4) = false := by simp [c4']
        rw [if_neg c4']
        by_cases c5 : m.kind = 5
        · have f7 : (m.kind == 5) = true := by simp [c5]
          rcases Bool.eq_false_or_eq_true (decide (m.before ≤ m.after)) with fb | fb
          · repeat' (first | simp only [evr, nextP_norm, evd, evq, beq_self_eq_true, cond_true, cond_false, reduceIte, Nat.reduceEqDiff, Nat.reduceAdd, Int.reduceBNe, Int.reduceBEq, Int.reduceLT, Int.reduceLE, Int.reduceEq, evh, evp, Nat.reduceLeDiff, Nat.reduceSub, Nat.reduceBEq, typs, em, ne2, qm4, qb4, qf4, f3, f4, f5, f6, f7, fb] | refine kCond2_by (fun hc => ?_) (fun hc => ?_) <;> try simp only [hc] | refine kPick_by (fun hc => ?_) (fun hc => ?_) <;> try simp only [hc] | refine kWant_by (fun hc => ?_) (fun hc => ?_) <;> try simp only [hc])
            refine callP_meets (X (P := fun v => v = .int .i64 (doE 1 b.b f m.after)) (rDoX 1 b.b f m.after H4)) ?_
            rintro _ H5 ⟨rfl, k5⟩
            repeat' (first | simp only [evr, nextP_norm, evd, evq, beq_self_eq_true, cond_true, cond_false, reduceIte, Nat.reduceEqDiff, Nat.reduceAdd, Int.reduceBNe, Int.reduceBEq, Int.reduceLT, Int.reduceLE, Int.reduceEq, evh, evp, Nat.reduceLeDiff, Nat.reduceSub, Nat.reduceBEq, typs] | refine kCond2_by (fun hc => ?_) (fun hc => ?_) <;> try simp only [hc] | refine kPick_by (fun hc => ?_) (fun hc => ?_) <;> try simp only [hc] | refine kWant_by (fun hc => ?_) (fun hc => ?_) <;> try simp only [hc])
            exact ⟨by rw [if_pos c5] <;> rfl, K4.trans k5⟩
          · repeat' (first | simp only [evr, nextP_norm, evd, evq, beq_self_eq_true, cond_true, cond_false, reduceIte, Nat.reduceEqDiff, Nat.reduceAdd, Int.reduceBNe, Int.reduceBEq, Int.reduceLT, Int.reduceLE, Int.reduceEq, evh, evp, Nat.reduceLeDiff, Nat.reduceSub, Nat.reduceBEq, typs, em, ne2, qm4, qb4, qf4, f3, f4, f5, f6, f7, fb] | refine kCond2_by (fun hc => ?_) (fun hc => ?_) <;> try simp only [hc] | refine kPick_by (fun hc => ?_) (fun hc => ?_) <;> try simp only [hc] | refine kWant_by (fun hc => ?_) (fun hc => ?_) <;> try simp only [hc])
            exact ⟨by rw [if_pos c5] <;> rfl, K4⟩
        have f7 : (m.kind == 5) = false := by simp [c5]
        repeat' (first | simp only [evr, nextP_norm, evd, evq, beq_self_eq_true, cond_true, cond_false, reduceIte, Nat.reduceEqDiff, Nat.reduceAdd, Int.reduceBNe, Int.reduceBEq, Int.reduceLT, Int.reduceLE, Int.reduceEq, evh, evp, Nat.reduceLeDiff, Nat.reduceSub, Nat.reduceBEq, typs, em, ne2, qm4, qb4, qf4, f3, f4, f5, f6, f7] | refine kCond2_by (fun hc => ?_) (fun hc => ?_) <;> try simp only [hc] | refine kPick_by (fun hc => ?_) (fun hc => ?_) <;> try simp only [hc] | refine kWant_by (fun hc => ?_) (fun hc => ?_) <;> try simp only [hc])
        exact ⟨by rw [if_neg c5], K4⟩
end
end Go.Proofs.YtncmgiddcefpcaaGreatDoor
namespace Go.Proofs.YtncmgiddcefpcaaGreatDoor
open Go Go.Ev Go.Con
set_option linter.unusedSimpArgs false
set_option linter.unusedVariables false
set_option maxRecDepth 100000
theorem RefAt.keep {h h' : Hp} {G : Nat → Prop} {R : Hi} {br : Nat} (r : RefAt h G R br) (hn : h.next ≤ h'.next) (hs : ∀ k, G k → h'.get k = h.get k) : RefAt h' G R br := by
  obtain ⟨c, vB, vL, vD, cs, hF, r, ok, ha⟩ := r
  exact ⟨c, vB, vL, vD, cs, hF, r.keep hn fun k hk => hs k ((hF k).2 hk), ok, ha⟩
theorem RefAt.lt {h : Hp} {G : Nat → Prop} {R : Hi} {br : Nat} (r : RefAt h G R br) {k : Nat} (hk : G k) : k < h.next := by
  obtain ⟨c, vB, vL, vD, cs, hF, r, _⟩ := r
  exact r.lt k ((hF k).1 hk)
theorem TreeAt.ltF' {h : Hp} {F : Nat → Prop} {T : Hi} {bt : Nat} (t : TreeAt h F T bt) {k : Nat} (hk : F k) : k < h.next := by obtain ⟨_, _, _, _, t⟩ := t; exact t.lt k hk
structure Two (h : Hp) (P F G : Nat → Prop) (T R : Hi) (bt br : Nat) : Prop where
  t : TreeAt h F T bt
  r : RefAt h G R br
  dj : ∀ k, F k → ¬ G k
  p : ∀ k, P k → ¬ F k ∧ ¬ G k ∧ k < h.next
section
variable {h h' : Hp} {P F F' G G' : Nat → Prop} {T T' R R' : Hi} {bt br : Nat}
theorem Two.keeps (x : Two h P F G T R bt br) (k : Keep h h') : Two h' P F G T R bt br :=
  ⟨x.t.keeps k, x.r.keep k.1 fun j hj => k.2 j (x.r.lt hj), x.dj, fun j hj => ⟨(x.p j hj).1, (x.p j hj).2.1, Nat.lt_of_lt_of_le (x.p j hj).2.2 k.1⟩⟩
theorem Two.tree (x : Two h P F G T R bt br) (u : Upd h F h' F') (t : TreeAt h' F' T' bt) : Two h' P F' G T' R bt br ∧ ∀ k, P k → h'.get k = h.get k := by
  refine ⟨⟨t, x.r.keep u.next fun k hk => u.same k (x.r.lt hk) fun hf => x.dj k hf hk, fun k hf hg => ?_, fun k hk => ⟨fun hf => ?_, (x.p k hk).2.1, Nat.lt_of_lt_of_le (x.p k hk).2.2 u.next⟩⟩, fun k hk => u.same k (x.p k hk).2.2 (x.p k hk).1⟩
  · rcases u.own k hf with h1 | h1
    · exact x.dj k h1 hg
    · have := x.r.lt hg; omega
  · rcases u.own k hf with h1 | h1
    · exact (x.p k hk).1 h1
    · have := (x.p k hk).2.2; omega
theorem Two.ref (x : Two h P F G T R bt br) (u : Upd h G h' G') (r : RefAt h' G' R' br) : Two h' P F G' T R' bt br ∧ ∀ k, P k → h'.get k = h.get k := by
  refine ⟨⟨x.t.keep u.next fun k hk => u.same k (x.t.ltF' hk) fun hg => x.dj k hk hg, r, fun k hf hg => ?_, fun k hk => ⟨(x.p k hk).1, fun hg => ?_, Nat.lt_of_lt_of_le (x.p k hk).2.2 u.next⟩⟩, fun k hk => u.same k (x.p k hk).2.2 (x.p k hk).2.1⟩
  · rcases u.own k hg with h1 | h1
    · exact x.dj k hf h1
    · have := x.t.ltF' hf; omega
  · rcases u.own k hg with h1 | h1
    · exact (x.p k hk).2.1 h1
    · have := (x.p k hk).2.2; omega
theorem Two.more (x : Two h P F G T R bt br) {b : Nat} (hb : b < h.next) (hF : ¬ F b) (hG : ¬ G b) : Two h (fun k => P k ∨ k = b) F G T R bt br :=
  ⟨x.t, x.r, x.dj, fun k hk => by
    rcases hk with hk | rfl
    · exact x.p k hk
    · exact ⟨hF, hG, hb⟩⟩
end
theorem Two.start {h0 h1 h2 : Hp} {F G : Nat → Prop} {T R : Hi} {bt br : Nat} (k1 : Keep h0 h1) (t : TreeAt h1 F T bt) (hF : ∀ k, F k → h0.next ≤ k) (k2 : Keep h1 h2) (r : RefAt h2 G R br) (hG : ∀ k, G k → h1.next ≤ k) : Two h2 (fun k => k < h0.next) F G T R bt br :=
  ⟨t.keeps k2, r, fun k hf hg => by have := t.ltF' hf; have := hG k hg; omega, fun k hk => ⟨fun hf => by have := hF k hf; omega, fun hg => by have := hG k hg; have := k1.1; omega, by have := k1.1; have := k2.1; omega⟩⟩
end Go.Proofs.YtncmgiddcefpcaaGreatDoor
namespace Go.Con
open Go
set_option linter.unusedSimpArgs false
set_option linter.unusedVariables false
def Hi.Kinds (T : Hi) : Prop := ∀ d n b, T.look d n = some b → b.kind = 1 ∨ b.kind = 2 ∨ b.kind = 3
end Go.Con
namespace Go.Con
open Go
set_option linter.unusedSimpArgs false
set_option linter.unusedVariables false
structure Dd where
  act : Int
  dir : Int
  name : ByteArray
  more : ByteArray
  b : Bn
namespace Hi
variable (T : Hi)
def step (d : Dd) : Hi :=
  if d.act ≤ 4 then (T.add d.dir d.name d.b).1 else if d.act = 5 then (T.name d.dir d.name d.more).1 else if d.act = 6 then (T.unname d.dir d.name).1
  else if d.act = 7 then (T.delete d.dir d.name).1 else if d.act = 8 then (T.access d.dir d.name d.b.acl).1 else (T.ringed d.dir d.name d.b.b).1
def steps (T : Hi) (l : List Dd) : Hi := l.foldl Hi.step T
def Kin : Prop := ∀ b ∈ T.B, b.kind = 1 ∨ b.kind = 2 ∨ b.kind = 3
def Few (n : Nat) : Prop := T.L.length ≤ n ∧ T.B.length ≤ n
theorem newHi_kin : newHi.Kin := by intro b hb; simp [newHi] at hb
theorem newHi_few : newHi.Few 0 := ⟨Nat.le_refl _, Nat.le_refl _⟩
variable {T}
theorem Few.mono {n m : Nat} (f : T.Few n) (h : n ≤ m) : T.Few m := ⟨Nat.le_trans f.1 h, Nat.le_trans f.2 h⟩
theorem Kin.setB (k : T.Kin) (i : Nat) (b : Bn) (h : b.kind = 1) : (T.setB i b).Kin := by
  intro x hx
  rcases List.mem_or_eq_of_mem_set hx with hx | rfl
  · exact k x hx
  · exact .inl h
theorem Kin.add (k : T.Kin) (d : Int) (n : ByteArray) (b : Bn) : (T.add d n b).1.Kin := by
  unfold Hi.add
  split
  · intro x hx
    unfold added at hx
    rcases List.mem_append.1 hx with hx | hx
    · exact k x hx
    · rw [List.mem_singleton.1 hx]
      unfold clean
      split
      · exact .inl rfl
      · split
        · exact .inr (.inl rfl)
        · exact .inr (.inr rfl)
  · exact k
theorem Few.add {m : Nat} (k : T.Few m) (d : Int) (n : ByteArray) (b : Bn) : (T.add d n b).1.Few (m + 1) := by
  unfold Hi.add
  split
  · exact ⟨by simp [added]; exact k.1, by simp [added]; exact k.2⟩
  · exact k.mono (Nat.le_succ _)
theorem Kin.step {T : Hi} (k : T.Kin) (d : Dd) : (T.step d).Kin := by
  unfold Hi.step
  split
  · exact k.add _ _ _
  split
  · unfold Hi.name named; split
    · exact k
    · split
      · exact k
      · split <;> exact k
  split
  · unfold Hi.unname taken; split
    · exact k
    · split <;> exact k
  split
  · unfold Hi.delete gone; split
    · exact k
    · split <;> exact k
  split
  · unfold Hi.access; split
    · exact k
    · split
      · exact k
      · rename_i h
        split
        · exact k
        · exact k.setB _ _ (by simpa using h)
  · unfold Hi.ringed; split
    · exact k
    · split
      · exact k
      · rename_i h
        split
        · exact k
        · exact k.setB _ _ (by simpa using h)
theorem Few.step {m : Nat} (k : T.Few m) (d : Dd) : (T.step d).Few (m + 1) := by
  have k' := k.mono (Nat.le_succ m)
  unfold Hi.step
  split
  · exact k.add _ _ _
  split
  · unfold Hi.name named; split
    · exact k'
    · split
      · exact k'
      · split
        · exact k'
        · exact ⟨by simp; exact k.1, k'.2⟩
  split
  · unfold Hi.unname taken; split
    · exact k'
    · split
      · exact k'
      · exact ⟨Nat.le_trans (List.length_filter_le _ _) k'.1, k'.2⟩
  split
  · unfold Hi.delete gone; split
    · exact k'
    · split
      · exact k'
      · exact ⟨Nat.le_trans (List.length_filter_le _ _) k'.1, k'.2⟩
  split
  · unfold Hi.access setB; split
    · exact k'
    · split
      · exact k'
      · split
        · exact k'
        · exact ⟨k'.1, by simp; exact k'.2⟩
  · unfold Hi.ringed setB; split
    · exact k'
    · split
      · exact k'
      · split
        · exact k'
        · exact ⟨k'.1, by simp; exact k'.2⟩
theorem steps_app (T : Hi) (l : List Dd) (d : Dd) : T.steps (l ++ [d]) = (T.steps l).step d := by
  unfold steps; rw [List.foldl_append]; rfl
theorem Kin.kinds (k : T.Kin) (ok : T.Ok) : T.Kinds := by
  intro d n b h
  unfold Hi.look at h
  obtain ⟨i, h1, rfl⟩ := Option.map_eq_some_iff.1 h
  have hi := ok.get_lt h1
  exact k _ (by rw [br_lt hi]; exact List.getElem_mem hi)
end Hi
end Go.Con
namespace Go.Proofs.YtncmgiddcefpcaaGreatDoor
open Go Go.Ev Go.Con
set_option linter.unusedSimpArgs false
set_option linter.unusedVariables false
set_option maxRecDepth 100000
def ddC (d : Dd) (sl : Value) : List Value := [.int .i64 d.act, .int .i64 d.dir, .string d.name, .string d.more] ++ bnC d.b sl
theorem TmTy.slAt' {h : Hp} {F : Nat → Prop} {v : Value} {l : List Tm} (s : TmTy h F v l) : TmSl h v l := SlTy.slAt s
def DoP (h : Hp) (P : Nat → Prop) (T : Hi) (bt br : Nat) (v : Value) (h' : Hp) : Prop := v = .bool true ∧ ∃ F' G', Two h' P F' G' T T bt br ∧ h.next ≤ h'.next ∧ ∀ k, P k → h'.get k = h.get k
set_option maxHeartbeats 4000000 in
theorem do_spec {h : Hp} {P F G : Nat → Prop} {T : Hi} {bt br : Nat} (x : Two h P F G T T bt br) (few : T.Few 1000) (d : Dd) {sl : Value} (hs : ∀ h', h.next ≤ h'.next → (∀ k, P k → h'.get k = h.get k) → TmSl h' sl d.b.acl) (hl : d.b.acl.length ≤ 1000000000) :
    Meets kon 15 [ptrV bt, ptrV br, .agg (ddC d sl).toArray] h (DoP h P (T.step d) bt br) := by
  obtain ⟨c1, c2⟩ := TmSl.cell (hs h (Nat.le_refl _) fun _ _ => rfl)
  have hL := few.1
  have hB := few.2
  unfold ddC bnC ptrV
  refine Meets.mk rfl (by kernel_rfl) Tryz.func15 rfl (congrArg Array.toList Tryz.results15) ?_
  simp only [evr, evd, evq, beq_self_eq_true, cond_true, cond_false, reduceIte, Nat.reduceEqDiff, Nat.reduceAdd, Int.reduceBNe, Int.reduceBEq, Int.reduceLT, Int.reduceLE, Int.reduceEq, evh, evp, Nat.reduceLeDiff, Nat.reduceSub, Nat.reduceBEq, typs, c1, c2]
  rw [nextP_norm]
  generalize hh : Hp.push _ _ = H
  have kH : Keep h H := by rw [← hh]; exact Keep.push _ _
  have nH : H.next = h.next + 1 := by rw [← hh]; rfl
  have gd : H.get h.next = some (.row (ddC d sl) 36 (.rw 0 [])) := by rw [← hh]; exact Hp.get_push_self _ _
  clear hh
  have qd := rowOf_rw gd
  have Q : ∀ {h'}, h'.get h.next = H.get h.next → rowOf h' h.next = rowOf H h.next := fun e => (rowOf_rw (e.trans gd)).trans (rowOf_rw gd).symm
  unfold ddC bnC at qd
  have x0 : Two H (fun k => P k ∨ k = h.next) F G T T bt br := (x.keeps kH).more (by omega) (fun hf => by have := x.t.ltF' hf; omega) (fun hg => by have := x.r.lt hg; omega)
  refine Wp_cut (fun fr => fr.get 0 = some (.pointer (some ⟨bt, 0, none⟩)) ∧ fr.get 1 = some (.pointer (some ⟨br, 0, none⟩)) ∧ fr.get 5 = some (.pointer (some ⟨h.next, 0, none⟩)) ∧ fr.get 6 = some (.bool false)) ?_ ?_
  · simp only [evr, nextP_norm, evd, evq, beq_self_eq_true, cond_true, cond_false, reduceIte, Nat.reduceEqDiff, Nat.reduceAdd, Int.reduceBNe, Int.reduceBEq, Int.reduceLT, Int.reduceLE, Int.reduceEq, typs]
  rintro fr ⟨g0, g1, g5, g6⟩
  have sl0 : ∀ {h'}, H.next ≤ h'.next → (∀ k, P k ∨ k = h.next → h'.get k = H.get k) → TmSl h' sl d.b.acl := fun {h'} hn he => hs h' (by omega) fun k hk => (he k (.inl hk)).trans (kH.2 k (x.p k hk).2.2)
  -- the end, from both trees
  have fin : ∀ {h' : Hp} {F' G' : Nat → Prop}, Two h' (fun k => P k ∨ k = h.next) F' G' (T.step d) (T.step d) bt br → H.next ≤ h'.next → (∀ k, P k ∨ k = h.next → h'.get k = H.get k) → DoP h P (T.step d) bt br (.bool true) h' := fun {h' F' G'} y hn hs =>
    ⟨rfl, F', G', ⟨y.t, y.r, y.dj, fun k hk => y.p k (.inl hk)⟩, by omega, fun k hk => (hs k (.inl hk)).trans (kH.2 k (x.p k hk).2.2)⟩
  by_cases e1 : d.act ≤ 4
  · have f1 : decide (d.act ≤ 4) = true := decide_eq_true e1
    have st : T.step d = (T.add d.dir d.name d.b).1 := by unfold Hi.step; rw [if_pos e1]
    rw [st] at fin ⊢
    repeat' (first | simp only [evr, nextP_norm, evd, evq, beq_self_eq_true, cond_true, cond_false, reduceIte, Nat.reduceEqDiff, Nat.reduceAdd, Int.reduceBNe, Int.reduceBEq, Int.reduceLT, Int.reduceLE, Int.reduceEq, evh, evp, Nat.reduceLeDiff, Nat.reduceSub, Nat.reduceBEq, typs, g0, g1, g5, g6, qd, f1] | refine kCond2_by (fun hc => ?_) (fun hc => ?_) <;> try simp only [hc] | refine kPick_by (fun hc => ?_) (fun hc => ?_) <;> try simp only [hc] | refine kWant_by (fun hc => ?_) (fun hc => ?_) <;> try simp only [hc])
    refine Wp_drawE [0, 0, 1, 0, 1, 0, 1, 3, 4, 0, 0, 0, 0, 0] (KR.mk (by kernel_rfl)) ?_
    repeat' (first | simp only [evr, nextP_norm, evd, evq, beq_self_eq_true, cond_true, cond_false, reduceIte, Nat.reduceEqDiff, Nat.reduceAdd, Int.reduceBNe, Int.reduceBEq, Int.reduceLT, Int.reduceLE, Int.reduceEq, evh, evp, Nat.reduceLeDiff, Nat.reduceSub, Nat.reduceBEq, typs, g0, g1, g5, g6, qd] | refine kCond2_by (fun hc => ?_) (fun hc => ?_) <;> try simp only [hc] | refine kPick_by (fun hc => ?_) (fun hc => ?_) <;> try simp only [hc] | refine kWant_by (fun hc => ?_) (fun hc => ?_) <;> try simp only [hc])
    have := made_spec (h := H) (x := d.b) (sl0 (Nat.le_refl _) fun _ _ => rfl)
    unfold bnC at this
    refine callP_meets this ?_
    rintro _ h1 ⟨rfl, k1⟩
    have x1 := x0.keeps k1
    have q1 := (Q (k1.2 _ (by omega))).trans qd
    repeat' (first | simp only [evr, nextP_norm, evd, evq, beq_self_eq_true, cond_true, cond_false, reduceIte, Nat.reduceEqDiff, Nat.reduceAdd, Int.reduceBNe, Int.reduceBEq, Int.reduceLT, Int.reduceLE, Int.reduceEq, evh, evp, Nat.reduceLeDiff, Nat.reduceSub, Nat.reduceBEq, typs, g0, g1, g5, g6, qd, q1] | refine kCond2_by (fun hc => ?_) (fun hc => ?_) <;> try simp only [hc] | refine kPick_by (fun hc => ?_) (fun hc => ?_) <;> try simp only [hc] | refine kWant_by (fun hc => ?_) (fun hc => ?_) <;> try simp only [hc])
    have := tAdd_spec x1.t (Nat.le_trans hL (by decide)) (Nat.le_trans hB (by decide)) (sl0 k1.1 fun k hk => k1.2 k (x0.p k hk).2.2) hl d.dir d.name
    unfold ptrV bnC at this
    refine callP_meets this ?_
    rintro _ h2 ⟨rfl, F2, t2, u2⟩
    obtain ⟨x2, o2⟩ := x1.tree u2 t2
    have n2 := u2.next
    have n1 := k1.1
    have q2 := (Q ((o2 _ (.inr rfl)).trans (k1.2 _ (by omega)))).trans qd
    have O2 : ∀ k, P k ∨ k = h.next → h2.get k = H.get k := fun k hk => (o2 k hk).trans (k1.2 k (x0.p k hk).2.2)
    repeat' (first | simp only [evr, nextP_norm, evd, evq, beq_self_eq_true, cond_true, cond_false, reduceIte, Nat.reduceEqDiff, Nat.reduceAdd, Int.reduceBNe, Int.reduceBEq, Int.reduceLT, Int.reduceLE, Int.reduceEq, evh, evp, Nat.reduceLeDiff, Nat.reduceSub, Nat.reduceBEq, typs, g0, g1, g5, g6, q2, qd] | refine kCond2_by (fun hc => ?_) (fun hc => ?_) <;> try simp only [hc] | refine kPick_by (fun hc => ?_) (fun hc => ?_) <;> try simp only [hc] | refine kWant_by (fun hc => ?_) (fun hc => ?_) <;> try simp only [hc])
    have := rAdd_spec x2.r (Nat.le_trans hL (by decide)) (Nat.le_trans hB (by decide)) (sl0 (by omega) O2) hl d.dir d.name
    unfold ptrV bnC at this
    refine callP_meets this ?_
    rintro _ h3 ⟨rfl, G3, r3, u3⟩
    obtain ⟨x3, o3⟩ := x2.ref u3 r3
    have n3 := u3.next
    repeat' (first | simp only [evr, nextP_norm, evd, evq, beq_self_eq_true, cond_true, cond_false, reduceIte, Nat.reduceEqDiff, Nat.reduceAdd, Int.reduceBNe, Int.reduceBEq, Int.reduceLT, Int.reduceLE, Int.reduceEq, evh, evp, Nat.reduceLeDiff, Nat.reduceSub, Nat.reduceBEq, typs, g0, g1, g5, g6, q2, qd] | refine kCond2_by (fun hc => ?_) (fun hc => ?_) <;> try simp only [hc] | refine kPick_by (fun hc => ?_) (fun hc => ?_) <;> try simp only [hc] | refine kWant_by (fun hc => ?_) (fun hc => ?_) <;> try simp only [hc])
    exact fin x3 (by omega) fun k hk => (o3 k hk).trans (O2 k hk)
  have f1 : decide (d.act ≤ 4) = false := decide_eq_false e1
  by_cases e5 : d.act = 5
  · have f5 : (d.act == 5) = true := by simp [e5]
    have st : T.step d = (T.name d.dir d.name d.more).1 := by unfold Hi.step; rw [if_neg e1, if_pos e5]
    rw [st] at fin ⊢
    repeat' (first | simp only [evr, nextP_norm, evd, evq, beq_self_eq_true, cond_true, cond_false, reduceIte, Nat.reduceEqDiff, Nat.reduceAdd, Int.reduceBNe, Int.reduceBEq, Int.reduceLT, Int.reduceLE, Int.reduceEq, evh, evp, Nat.reduceLeDiff, Nat.reduceSub, Nat.reduceBEq, typs, g0, g1, g5, g6, qd, f1, f5] | refine kCond2_by (fun hc => ?_) (fun hc => ?_) <;> try simp only [hc] | refine kPick_by (fun hc => ?_) (fun hc => ?_) <;> try simp only [hc] | refine kWant_by (fun hc => ?_) (fun hc => ?_) <;> try simp only [hc])
    refine Wp_drawE [0, 0, 1, 0, 1, 0, 1, 3, 0, 0, 1, 0, 1, 0, 1, 4, 0, 0] (KR.mk (by kernel_rfl)) ?_
    repeat' (first | simp only [evr, nextP_norm, evd, evq, beq_self_eq_true, cond_true, cond_false, reduceIte, Nat.reduceEqDiff, Nat.reduceAdd, Int.reduceBNe, Int.reduceBEq, Int.reduceLT, Int.reduceLE, Int.reduceEq, evh, evp, Nat.reduceLeDiff, Nat.reduceSub, Nat.reduceBEq, typs, g0, g1, g5, g6, qd] | refine kCond2_by (fun hc => ?_) (fun hc => ?_) <;> try simp only [hc] | refine kPick_by (fun hc => ?_) (fun hc => ?_) <;> try simp only [hc] | refine kWant_by (fun hc => ?_) (fun hc => ?_) <;> try simp only [hc])
    have := tName_spec x0.t (Nat.le_trans hL (by decide)) d.dir d.name d.more
    unfold ptrV at this
    refine callP_meets this ?_
    rintro _ h2 ⟨rfl, F2, t2, u2⟩
    obtain ⟨x2, o2⟩ := x0.tree u2 t2
    have n2 := u2.next
    have q2 := (Q (o2 _ (.inr rfl))).trans qd
    repeat' (first | simp only [evr, nextP_norm, evd, evq, beq_self_eq_true, cond_true, cond_false, reduceIte, Nat.reduceEqDiff, Nat.reduceAdd, Int.reduceBNe, Int.reduceBEq, Int.reduceLT, Int.reduceLE, Int.reduceEq, evh, evp, Nat.reduceLeDiff, Nat.reduceSub, Nat.reduceBEq, typs, g0, g1, g5, g6, q2, qd] | refine kCond2_by (fun hc => ?_) (fun hc => ?_) <;> try simp only [hc] | refine kPick_by (fun hc => ?_) (fun hc => ?_) <;> try simp only [hc] | refine kWant_by (fun hc => ?_) (fun hc => ?_) <;> try simp only [hc])
    have := rName_spec x2.r (Nat.le_trans hL (by decide)) d.dir d.name d.more
    unfold ptrV at this
    refine callP_meets this ?_
    rintro _ h3 ⟨rfl, G3, r3, u3⟩
    obtain ⟨x3, o3⟩ := x2.ref u3 r3
    have n3 := u3.next
    have q3 := (Q ((o3 _ (.inr rfl)).trans (o2 _ (.inr rfl)))).trans qd
    repeat' (first | simp only [evr, nextP_norm, evd, evq, beq_self_eq_true, cond_true, cond_false, reduceIte, Nat.reduceEqDiff, Nat.reduceAdd, Int.reduceBNe, Int.reduceBEq, Int.reduceLT, Int.reduceLE, Int.reduceEq, evh, evp, Nat.reduceLeDiff, Nat.reduceSub, Nat.reduceBEq, typs, g0, g1, g5, g6, q3, q2, qd] | refine kCond2_by (fun hc => ?_) (fun hc => ?_) <;> try simp only [hc] | refine kPick_by (fun hc => ?_) (fun hc => ?_) <;> try simp only [hc] | refine kWant_by (fun hc => ?_) (fun hc => ?_) <;> try simp only [hc])
    exact fin x3 (by omega) fun k hk => (o3 k hk).trans (o2 k hk)
  have f5 : (d.act == 5) = false := by simp [e5]
  by_cases e6 : d.act = 6
  · have f6 : (d.act == 6) = true := by simp [e6]
    have st : T.step d = (T.unname d.dir d.name).1 := by unfold Hi.step; rw [if_neg e1, if_neg e5, if_pos e6]
    rw [st] at fin ⊢
    repeat' (first | simp only [evr, nextP_norm, evd, evq, beq_self_eq_true, cond_true, cond_false, reduceIte, Nat.reduceEqDiff, Nat.reduceAdd, Int.reduceBNe, Int.reduceBEq, Int.reduceLT, Int.reduceLE, Int.reduceEq, evh, evp, Nat.reduceLeDiff, Nat.reduceSub, Nat.reduceBEq, typs, g0, g1, g5, g6, qd, f1, f5, f6] | refine kCond2_by (fun hc => ?_) (fun hc => ?_) <;> try simp only [hc] | refine kPick_by (fun hc => ?_) (fun hc => ?_) <;> try simp only [hc] | refine kWant_by (fun hc => ?_) (fun hc => ?_) <;> try simp only [hc])
    refine Wp_drawE [0, 0, 1, 0, 1, 3, 0, 0, 1, 0, 1, 4, 0, 0] (KR.mk (by kernel_rfl)) ?_
    repeat' (first | simp only [evr, nextP_norm, evd, evq, beq_self_eq_true, cond_true, cond_false, reduceIte, Nat.reduceEqDiff, Nat.reduceAdd, Int.reduceBNe, Int.reduceBEq, Int.reduceLT, Int.reduceLE, Int.reduceEq, evh, evp, Nat.reduceLeDiff, Nat.reduceSub, Nat.reduceBEq, typs, g0, g1, g5, g6, qd] | refine kCond2_by (fun hc => ?_) (fun hc => ?_) <;> try simp only [hc] | refine kPick_by (fun hc => ?_) (fun hc => ?_) <;> try simp only [hc] | refine kWant_by (fun hc => ?_) (fun hc => ?_) <;> try simp only [hc])
    have := tUnname_spec x0.t (Nat.le_trans hL (by decide)) d.dir d.name
    unfold ptrV at this
    refine callP_meets this ?_
    rintro _ h2 ⟨rfl, F2, t2, u2⟩
    obtain ⟨x2, o2⟩ := x0.tree u2 t2
    have n2 := u2.next
    have q2 := (Q (o2 _ (.inr rfl))).trans qd
    repeat' (first | simp only [evr, nextP_norm, evd, evq, beq_self_eq_true, cond_true, cond_false, reduceIte, Nat.reduceEqDiff, Nat.reduceAdd, Int.reduceBNe, Int.reduceBEq, Int.reduceLT, Int.reduceLE, Int.reduceEq, evh, evp, Nat.reduceLeDiff, Nat.reduceSub, Nat.reduceBEq, typs, g0, g1, g5, g6, q2, qd] | refine kCond2_by (fun hc => ?_) (fun hc => ?_) <;> try simp only [hc] | refine kPick_by (fun hc => ?_) (fun hc => ?_) <;> try simp only [hc] | refine kWant_by (fun hc => ?_) (fun hc => ?_) <;> try simp only [hc])
    have := rUnname_spec x2.r (Nat.le_trans hL (by decide)) d.dir d.name
    unfold ptrV at this
    refine callP_meets this ?_
    rintro _ h3 ⟨rfl, G3, r3, u3⟩
    obtain ⟨x3, o3⟩ := x2.ref u3 r3
    have n3 := u3.next
    have q3 := (Q ((o3 _ (.inr rfl)).trans (o2 _ (.inr rfl)))).trans qd
    repeat' (first | simp only [evr, nextP_norm, evd, evq, beq_self_eq_true, cond_true, cond_false, reduceIte, Nat.reduceEqDiff, Nat.reduceAdd, Int.reduceBNe, Int.reduceBEq, Int.reduceLT, Int.reduceLE, Int.reduceEq, evh, evp, Nat.reduceLeDiff, Nat.reduceSub, Nat.reduceBEq, typs, g0, g1, g5, g6, q3, q2, qd] | refine kCond2_by (fun hc => ?_) (fun hc => ?_) <;> try simp only [hc] | refine kPick_by (fun hc => ?_) (fun hc => ?_) <;> try simp only [hc] | refine kWant_by (fun hc => ?_) (fun hc => ?_) <;> try simp only [hc])
    exact fin x3 (by omega) fun k hk => (o3 k hk).trans (o2 k hk)
  have f6 : (d.act == 6) = false := by simp [e6]
  by_cases e7 : d.act = 7
  · have f7 : (d.act == 7) = true := by simp [e7]
    have st : T.step d = (T.delete d.dir d.name).1 := by unfold Hi.step; rw [if_neg e1, if_neg e5, if_neg e6, if_pos e7]
    rw [st] at fin ⊢
    repeat' (first | simp only [evr, nextP_norm, evd, evq, beq_self_eq_true, cond_true, cond_false, reduceIte, Nat.reduceEqDiff, Nat.reduceAdd, Int.reduceBNe, Int.reduceBEq, Int.reduceLT, Int.reduceLE, Int.reduceEq, evh, evp, Nat.reduceLeDiff, Nat.reduceSub, Nat.reduceBEq, typs, g0, g1, g5, g6, qd, f1, f5, f6, f7] | refine kCond2_by (fun hc => ?_) (fun hc => ?_) <;> try simp only [hc] | refine kPick_by (fun hc => ?_) (fun hc => ?_) <;> try simp only [hc] | refine kWant_by (fun hc => ?_) (fun hc => ?_) <;> try simp only [hc])
    have hd : (T.delete d.dir d.name).2.1.acl.length ≤ 1000000000 := by
      obtain ⟨_, _, _, _, t⟩ := x0.t
      unfold Hi.delete
      split
      · simp [noBn]
      · split
        · simp [noBn]
        · exact t.acl _
    have := tDelete_spec x0.t (Nat.le_trans hL (by decide)) d.dir d.name
    unfold ptrV at this
    refine callP_meets this ?_
    rintro _ h2 ⟨⟨s2, rfl, w2⟩, F2, t2, u2⟩
    obtain ⟨x2, o2⟩ := x0.tree u2 t2
    have n2 := u2.next
    obtain ⟨z1, z2⟩ := TmSl.cell w2.slAt'
    unfold bnC
    simp only [evr, evd, evq, beq_self_eq_true, cond_true, cond_false, reduceIte, Nat.reduceEqDiff, Nat.reduceAdd, Int.reduceBNe, Int.reduceBEq, Int.reduceLT, Int.reduceLE, Int.reduceEq, evh, evp, Nat.reduceLeDiff, Nat.reduceSub, Nat.reduceBEq, typs, g0, g1, g5, g6, z1, z2]
    rw [nextP_norm]
    generalize hh : Hp.set _ _ _ = H3
    have k3 : Keep h2 H3 := by rw [← hh]; exact (Keep.push _ _).set (Nat.le_refl _)
    have n3 : H3.next = h2.next + 1 := by rw [← hh]; rfl
    have a3 : H3.get h2.next = some (.row (bnC (T.delete d.dir d.name).2.1 s2) 40 (.rw 0 [])) := by rw [← hh]; exact Hp.get_set_self _ _ _
    clear hh
    have x3 := (x2.keeps k3).more (b := h2.next) (by omega) (fun hf => by have := x2.t.ltF' hf; omega) (fun hg => by have := x2.r.lt hg; omega)
    have w3 : TmTy H3 (fun k => H.next ≤ k ∧ k < h2.next) s2 (T.delete d.dir d.name).2.1.acl := by
      have := SlTy.within w2
      exact SlTy.keepF this k3.1 fun k hk => k3.2 k hk.2
    have q3 := (Q ((k3.2 _ (by omega)).trans (o2 _ (.inr rfl)))).trans qd
    repeat' (first | simp only [evr, nextP_norm, evd, evq, beq_self_eq_true, cond_true, cond_false, reduceIte, Nat.reduceEqDiff, Nat.reduceAdd, Int.reduceBNe, Int.reduceBEq, Int.reduceLT, Int.reduceLE, Int.reduceEq, evh, evp, Nat.reduceLeDiff, Nat.reduceSub, Nat.reduceBEq, typs, g0, g1, g5, g6, q3] | refine kCond2_by (fun hc => ?_) (fun hc => ?_) <;> try simp only [hc] | refine kPick_by (fun hc => ?_) (fun hc => ?_) <;> try simp only [hc] | refine kWant_by (fun hc => ?_) (fun hc => ?_) <;> try simp only [hc])
    have := rDelete_spec x3.r (Nat.le_trans hL (by decide)) d.dir d.name
    unfold ptrV at this
    refine callP_meets this ?_
    rintro _ h4 ⟨s4, G4, rfl, w4, r4, u4⟩
    obtain ⟨x4, o4⟩ := x3.ref u4 r4
    have n4 := u4.next
    obtain ⟨y1, y2⟩ := TmSl.cell w4.slAt'
    have w4' : TmTy h4 (fun k => H.next ≤ k ∧ k < h2.next) s2 (T.delete d.dir d.name).2.1.acl := SlTy.keepF w3 n4 fun k hk => u4.same k (by omega) fun hg => by have := x0.r.lt hg; omega
    unfold bnC
    simp only [evr, evd, evq, beq_self_eq_true, cond_true, cond_false, reduceIte, Nat.reduceEqDiff, Nat.reduceAdd, Int.reduceBNe, Int.reduceBEq, Int.reduceLT, Int.reduceLE, Int.reduceEq, evh, evp, Nat.reduceLeDiff, Nat.reduceSub, Nat.reduceBEq, typs, g0, g1, g5, g6, y1, y2]
    rw [nextP_norm]
    generalize hh : Hp.set _ _ _ = H5
    have k5 : Keep h4 H5 := by rw [← hh]; exact (Keep.push _ _).set (Nat.le_refl _)
    have n5 : H5.next = h4.next + 1 := by rw [← hh]; rfl
    have b5 : H5.get h4.next = some (.row (bnC (T.delete d.dir d.name).2.1 s4) 34 (.rw 0 [])) := by rw [← hh]; exact Hp.get_set_self _ _ _
    clear hh
    have qb := rowOf_rw b5
    have qa := rowOf_rw ((k5.2 _ (by omega)).trans ((o4 _ (.inr rfl)).trans a3))
    unfold bnC at qa qb
    repeat' (first | simp only [evr, nextP_norm, evd, evq, beq_self_eq_true, cond_true, cond_false, reduceIte, Nat.reduceEqDiff, Nat.reduceAdd, Int.reduceBNe, Int.reduceBEq, Int.reduceLT, Int.reduceLE, Int.reduceEq, evh, evp, Nat.reduceLeDiff, Nat.reduceSub, Nat.reduceBEq, typs, g0, g1, g5, g6, qa, qb] | refine kCond2_by (fun hc => ?_) (fun hc => ?_) <;> try simp only [hc] | refine kPick_by (fun hc => ?_) (fun hc => ?_) <;> try simp only [hc] | refine kWant_by (fun hc => ?_) (fun hc => ?_) <;> try simp only [hc])
    refine Wp_drawE [0, 0, 0, 0, 1, 3, 1, 4, 0, 0] (KR.mk (by kernel_rfl)) ?_
    repeat' (first | simp only [evr, nextP_norm, evd, evq, beq_self_eq_true, cond_true, cond_false, reduceIte, Nat.reduceEqDiff, Nat.reduceAdd, Int.reduceBNe, Int.reduceBEq, Int.reduceLT, Int.reduceLE, Int.reduceEq, evh, evp, Nat.reduceLeDiff, Nat.reduceSub, Nat.reduceBEq, typs, g0, g1, g5, g6, qa, qb] | refine kCond2_by (fun hc => ?_) (fun hc => ?_) <;> try simp only [hc] | refine kPick_by (fun hc => ?_) (fun hc => ?_) <;> try simp only [hc] | refine kWant_by (fun hc => ?_) (fun hc => ?_) <;> try simp only [hc])
    have := model_spec (h := H5) (x := (T.delete d.dir d.name).2.1) (SlAt.keep w4'.slAt' k5)
    unfold bnC at this
    refine callP_meets this ?_
    rintro _ h6 ⟨rfl, k6⟩
    have qa6 := rowOf_rw ((k6.2 _ (by omega)).trans ((k5.2 _ (by omega)).trans ((o4 _ (.inr rfl)).trans a3)))
    have qb6 := rowOf_rw ((k6.2 _ (by omega)).trans b5)
    unfold bnC at qa6 qb6
    repeat' (first | simp only [evr, nextP_norm, evd, evq, beq_self_eq_true, cond_true, cond_false, reduceIte, Nat.reduceEqDiff, Nat.reduceAdd, Int.reduceBNe, Int.reduceBEq, Int.reduceLT, Int.reduceLE, Int.reduceEq, evh, evp, Nat.reduceLeDiff, Nat.reduceSub, Nat.reduceBEq, typs, g0, g1, g5, g6, qa, qb, qa6, qb6] | refine kCond2_by (fun hc => ?_) (fun hc => ?_) <;> try simp only [hc] | refine kPick_by (fun hc => ?_) (fun hc => ?_) <;> try simp only [hc] | refine kWant_by (fun hc => ?_) (fun hc => ?_) <;> try simp only [hc])
    have := sameBranch_spec (SlAt.keep (SlAt.keep w4'.slAt' k5) k6) (SlAt.keep (SlAt.keep w4.slAt' k5) k6) hd hd
    unfold bnC at this
    refine callP_meets this ?_
    rintro _ h7 ⟨rfl, k7⟩
    have qa7 := rowOf_rw ((k7.2 _ (by have := k6.1; omega)).trans ((k6.2 _ (by omega)).trans ((k5.2 _ (by omega)).trans ((o4 _ (.inr rfl)).trans a3))))
    have qb7 := rowOf_rw ((k7.2 _ (by have := k6.1; omega)).trans ((k6.2 _ (by omega)).trans b5))
    unfold bnC at qa7 qb7
    have tt : decide ((T.delete d.dir d.name).2.1 = (T.delete d.dir d.name).2.1) = true := decide_eq_true rfl
    repeat' (first | simp only [evr, nextP_norm, evd, evq, beq_self_eq_true, cond_true, cond_false, reduceIte, Nat.reduceEqDiff, Nat.reduceAdd, Int.reduceBNe, Int.reduceBEq, Int.reduceLT, Int.reduceLE, Int.reduceEq, evh, evp, Nat.reduceLeDiff, Nat.reduceSub, Nat.reduceBEq, typs, g0, g1, g5, g6, qa, qb, qa6, qb6, qa7, qb7, tt] | refine kCond2_by (fun hc => ?_) (fun hc => ?_) <;> try simp only [hc] | refine kPick_by (fun hc => ?_) (fun hc => ?_) <;> try simp only [hc] | refine kWant_by (fun hc => ?_) (fun hc => ?_) <;> try simp only [hc])
    have x7 := ((x4.keeps k5).keeps k6).keeps k7
    have n6 := k6.1
    have n7 := k7.1
    exact fin ⟨x7.t, x7.r, x7.dj, fun k hk => x7.p k (.inl hk)⟩ (by omega) fun k hk => by
      have := (x0.p k hk).2.2
      exact (k7.2 k (by omega)).trans ((k6.2 k (by omega)).trans ((k5.2 k (by omega)).trans ((o4 k (.inl hk)).trans ((k3.2 k (by omega)).trans (o2 k hk)))))
  have f7 : (d.act == 7) = false := by simp [e7]
  by_cases e8 : d.act = 8
  · have f8 : (d.act == 8) = true := by simp [e8]
    have st : T.step d = (T.access d.dir d.name d.b.acl).1 := by unfold Hi.step; rw [if_neg e1, if_neg e5, if_neg e6, if_neg e7, if_pos e8]
    rw [st] at fin ⊢
    repeat' (first | simp only [evr, nextP_norm, evd, evq, beq_self_eq_true, cond_true, cond_false, reduceIte, Nat.reduceEqDiff, Nat.reduceAdd, Int.reduceBNe, Int.reduceBEq, Int.reduceLT, Int.reduceLE, Int.reduceEq, evh, evp, Nat.reduceLeDiff, Nat.reduceSub, Nat.reduceBEq, typs, g0, g1, g5, g6, qd, f1, f5, f6, f7, f8] | refine kCond2_by (fun hc => ?_) (fun hc => ?_) <;> try simp only [hc] | refine kPick_by (fun hc => ?_) (fun hc => ?_) <;> try simp only [hc] | refine kWant_by (fun hc => ?_) (fun hc => ?_) <;> try simp only [hc])
    refine Wp_drawE [0, 0, 1, 0, 1, 0, 0, 1, 3, 0, 0, 1, 0, 1, 0, 0, 1, 4, 0, 0] (KR.mk (by kernel_rfl)) ?_
    repeat' (first | simp only [evr, nextP_norm, evd, evq, beq_self_eq_true, cond_true, cond_false, reduceIte, Nat.reduceEqDiff, Nat.reduceAdd, Int.reduceBNe, Int.reduceBEq, Int.reduceLT, Int.reduceLE, Int.reduceEq, evh, evp, Nat.reduceLeDiff, Nat.reduceSub, Nat.reduceBEq, typs, g0, g1, g5, g6, qd] | refine kCond2_by (fun hc => ?_) (fun hc => ?_) <;> try simp only [hc] | refine kPick_by (fun hc => ?_) (fun hc => ?_) <;> try simp only [hc] | refine kWant_by (fun hc => ?_) (fun hc => ?_) <;> try simp only [hc])
    have := tAccess_spec x0.t d.dir d.name (sl0 (Nat.le_refl _) fun _ _ => rfl) hl
    unfold ptrV at this
    refine callP_meets this ?_
    rintro _ h2 ⟨rfl, F2, t2, u2⟩
    obtain ⟨x2, o2⟩ := x0.tree u2 t2
    have n2 := u2.next
    have q2 := (Q (o2 _ (.inr rfl))).trans qd
    repeat' (first | simp only [evr, nextP_norm, evd, evq, beq_self_eq_true, cond_true, cond_false, reduceIte, Nat.reduceEqDiff, Nat.reduceAdd, Int.reduceBNe, Int.reduceBEq, Int.reduceLT, Int.reduceLE, Int.reduceEq, evh, evp, Nat.reduceLeDiff, Nat.reduceSub, Nat.reduceBEq, typs, g0, g1, g5, g6, q2, qd] | refine kCond2_by (fun hc => ?_) (fun hc => ?_) <;> try simp only [hc] | refine kPick_by (fun hc => ?_) (fun hc => ?_) <;> try simp only [hc] | refine kWant_by (fun hc => ?_) (fun hc => ?_) <;> try simp only [hc])
    have := rAccess_spec x2.r (Nat.le_trans hL (by decide)) (sl0 n2 o2) hl d.dir d.name
    unfold ptrV at this
    refine callP_meets this ?_
    rintro _ h3 ⟨rfl, G3, r3, u3⟩
    obtain ⟨x3, o3⟩ := x2.ref u3 r3
    have n3 := u3.next
    have q3 := (Q ((o3 _ (.inr rfl)).trans (o2 _ (.inr rfl)))).trans qd
    repeat' (first | simp only [evr, nextP_norm, evd, evq, beq_self_eq_true, cond_true, cond_false, reduceIte, Nat.reduceEqDiff, Nat.reduceAdd, Int.reduceBNe, Int.reduceBEq, Int.reduceLT, Int.reduceLE, Int.reduceEq, evh, evp, Nat.reduceLeDiff, Nat.reduceSub, Nat.reduceBEq, typs, g0, g1, g5, g6, q3, q2, qd] | refine kCond2_by (fun hc => ?_) (fun hc => ?_) <;> try simp only [hc] | refine kPick_by (fun hc => ?_) (fun hc => ?_) <;> try simp only [hc] | refine kWant_by (fun hc => ?_) (fun hc => ?_) <;> try simp only [hc])
    exact fin x3 (by omega) fun k hk => (o3 k hk).trans (o2 k hk)
  have f8 : (d.act == 8) = false := by simp [e8]
  have st : T.step d = (T.ringed d.dir d.name d.b.b).1 := by unfold Hi.step; rw [if_neg e1, if_neg e5, if_neg e6, if_neg e7, if_neg e8]
  rw [st] at fin ⊢
  repeat' (first | simp only [evr, nextP_norm, evd, evq, beq_self_eq_true, cond_true, cond_false, reduceIte, Nat.reduceEqDiff, Nat.reduceAdd, Int.reduceBNe, Int.reduceBEq, Int.reduceLT, Int.reduceLE, Int.reduceEq, evh, evp, Nat.reduceLeDiff, Nat.reduceSub, Nat.reduceBEq, typs, g0, g1, g5, g6, qd, f1, f5, f6, f7, f8] | refine kCond2_by (fun hc => ?_) (fun hc => ?_) <;> try simp only [hc] | refine kPick_by (fun hc => ?_) (fun hc => ?_) <;> try simp only [hc] | refine kWant_by (fun hc => ?_) (fun hc => ?_) <;> try simp only [hc])
  refine Wp_drawE [0, 0, 1, 0, 1, 0, 0, 1, 3, 0, 0, 1, 0, 1, 0, 0, 1, 4, 0, 0] (KR.mk (by kernel_rfl)) ?_
  repeat' (first | simp only [evr, nextP_norm, evd, evq, beq_self_eq_true, cond_true, cond_false, reduceIte, Nat.reduceEqDiff, Nat.reduceAdd, Int.reduceBNe, Int.reduceBEq, Int.reduceLT, Int.reduceLE, Int.reduceEq, evh, evp, Nat.reduceLeDiff, Nat.reduceSub, Nat.reduceBEq, typs, g0, g1, g5, g6, qd] | refine kCond2_by (fun hc => ?_) (fun hc => ?_) <;> try simp only [hc] | refine kPick_by (fun hc => ?_) (fun hc => ?_) <;> try simp only [hc] | refine kWant_by (fun hc => ?_) (fun hc => ?_) <;> try simp only [hc])
  have := tRinged_spec x0.t d.dir d.name d.b.b
  unfold ptrV bkV at this
  refine callP_meets this ?_
  rintro _ h2 ⟨rfl, F2, t2, u2⟩
  obtain ⟨x2, o2⟩ := x0.tree u2 t2
  have n2 := u2.next
  have q2 := (Q (o2 _ (.inr rfl))).trans qd
  repeat' (first | simp only [evr, nextP_norm, evd, evq, beq_self_eq_true, cond_true, cond_false, reduceIte, Nat.reduceEqDiff, Nat.reduceAdd, Int.reduceBNe, Int.reduceBEq, Int.reduceLT, Int.reduceLE, Int.reduceEq, evh, evp, Nat.reduceLeDiff, Nat.reduceSub, Nat.reduceBEq, typs, g0, g1, g5, g6, q2, qd] | refine kCond2_by (fun hc => ?_) (fun hc => ?_) <;> try simp only [hc] | refine kPick_by (fun hc => ?_) (fun hc => ?_) <;> try simp only [hc] | refine kWant_by (fun hc => ?_) (fun hc => ?_) <;> try simp only [hc])
  have := rRinged_spec x2.r (Nat.le_trans hL (by decide)) d.b.b d.dir d.name
  unfold ptrV at this
  refine callP_meets this ?_
  rintro _ h3 ⟨rfl, G3, r3, u3⟩
  obtain ⟨x3, o3⟩ := x2.ref u3 r3
  have n3 := u3.next
  have q3 := (Q ((o3 _ (.inr rfl)).trans (o2 _ (.inr rfl)))).trans qd
  repeat' (first | simp only [evr, nextP_norm, evd, evq, beq_self_eq_true, cond_true, cond_false, reduceIte, Nat.reduceEqDiff, Nat.reduceAdd, Int.reduceBNe, Int.reduceBEq, Int.reduceLT, Int.reduceLE, Int.reduceEq, evh, evp, Nat.reduceLeDiff, Nat.reduceSub, Nat.reduceBEq, typs, g0, g1, g5, g6, q3, q2, qd] | refine kCond2_by (fun hc => ?_) (fun hc => ?_) <;> try simp only [hc] | refine kPick_by (fun hc => ?_) (fun hc => ?_) <;> try simp only [hc] | refine kWant_by (fun hc => ?_) (fun hc => ?_) <;> try simp only [hc])
  exact fin x3 (by omega) fun k hk => (o3 k hk).trans (o2 k hk)
end Go.Proofs.YtncmgiddcefpcaaGreatDoor
namespace Go.Proofs.YtncmgiddcefpcaaGreatDoor
open Go Go.Ev Go.Con
set_option linter.unusedSimpArgs false
set_option linter.unusedVariables false
set_option maxRecDepth 100000
def DdSl (h : Hp) (v : Value) (l : List Dd) : Prop := ∃ cs, SlAt h 14 v cs ∧ cs.length = l.length * 14 ∧ ∀ i d, l[i]? = some d → ∃ sl, (cs.drop (i * 14)).take 14 = ddC d sl ∧ TmSl h sl d.b.acl
section
variable {h : Hp} {v : Value} {l : List Dd}
theorem DdSl.keep {h' : Hp} (s : DdSl h v l) (k : Keep h h') : DdSl h' v l := by
  obtain ⟨cs, h1, h2, h3⟩ := s
  exact ⟨cs, SlAt.keep h1 k, h2, fun i d hi => by obtain ⟨sl, e1, e2⟩ := h3 i d hi; exact ⟨sl, e1, SlAt.keep e2 k⟩⟩
theorem DdSl.len (s : DdSl h v l) : evLen kon.P 22 v = some (.int .i64 l.length) := by
  obtain ⟨cs, s, hc, _⟩ := s
  rcases s with ⟨rfl, hl⟩ | ⟨b, o, k, c, all, rfl, h2, h3, h4, h5, h6⟩
  · rw [hl] at hc
    have : l = [] := List.length_eq_zero_iff.1 (by simp at hc; omega)
    subst this; exact evLen_slice (e := 36) (by kernel_rfl)
  · have : k = l.length := by omega
    subst this
    exact evLen_slice (e := 36) (by kernel_rfl)
theorem DdSl.at (s : DdSl h v l) {i : Nat} {d : Dd} (hi : l[i]? = some d) : ∃ b o all sl, evIndexAddr kon.P 22 v (.int .i64 i) = some (.pointer (some ⟨b, o, none⟩)) ∧ b < h.next ∧
    rowOf h b = some all ∧ o + 14 ≤ all.length ∧ (all.drop o).take 14 = ddC d sl ∧ TmSl h sl d.b.acl := by
  have hlt : i < l.length := (List.getElem?_eq_some_iff.1 hi).1
  obtain ⟨cs, s, hc, ha⟩ := s
  obtain ⟨sl, e1, e2⟩ := ha i d hi
  rcases s with ⟨rfl, hl⟩ | ⟨b, o, k, c, all, rfl, h2, h3, h4, h5, h6⟩
  · rw [hl] at hc; simp at hc; omega
  · have hk : l.length = k := by omega
    subst hk
    have hz : o + l.length * 14 ≤ all.length := by
      have := congrArg List.length h6
      rw [List.length_take, List.length_drop, hc] at this; omega
    refine ⟨b, o + i * 14, all, sl, ?_, h3, h4, by omega, ?_, e2⟩
    · have := L_indexAddr (C := kon) (t := 22) (e := 36) (n := 14) (by kernel_rfl) (by kernel_rfl) b o l.length c .i64 i (by omega) (by omega)
      simpa using this
    · rw [← e1, ← h6, List.drop_take, List.take_take, List.drop_drop]
      congr 1; omega
theorem dd_cell {all : List Value} {o : Nat} {d : Dd} {sl : Value} (h : (all.drop o).take 14 = ddC d sl) : all[o + 2]? = some (.string d.name) ∧ all[o + 3]? = some (.string d.more) ∧ all[o + 4 + 3]? = some (.string d.b.link) ∧ all[o + 4 + 5]? = some sl := by
  have e : ∀ j, j < 14 → all[o + j]? = (ddC d sl)[j]? := fun j hj => by rw [← h, List.getElem?_take, if_pos hj, List.getElem?_drop]
  exact ⟨e 2 (by decide), e 3 (by decide), e 7 (by decide), e 9 (by decide)⟩
end
def smallD (d : Dd) : Bool := decide (d.name.size ≤ 200) && decide (d.more.size ≤ 200) && decide (d.b.link.size ≤ 400) && decide (d.b.acl.length ≤ 40)
def small (l : List Dd) : Bool := decide (l.length ≤ 121) && l.all smallD
set_option maxHeartbeats 4000000 in
theorem small_spec {h : Hp} {v : Value} {l : List Dd} (s : DdSl h v l) : Meets kon 12 [v] h fun u h' => u = .bool (small l) ∧ h' = h := by
  have ll := s.len
  refine Meets.mk rfl (by kernel_rfl) Tryz.func12 rfl (congrArg Array.toList Tryz.results12) ?_
  repeat' (first | simp only [evr, nextP_norm, evd, evq, beq_self_eq_true, cond_true, cond_false, reduceIte, Nat.reduceEqDiff, Nat.reduceAdd, Int.reduceBNe, Int.reduceBEq, Int.reduceLT, Int.reduceLE, Int.reduceEq, evh, evp, Nat.reduceLeDiff, Nat.reduceSub, Nat.reduceBEq, typs] | refine kCond2_by (fun hc => ?_) (fun hc => ?_) <;> try simp only [hc] | refine kPick_by (fun hc => ?_) (fun hc => ?_) <;> try simp only [hc] | refine kWant_by (fun hc => ?_) (fun hc => ?_) <;> try simp only [hc])
  refine Wp_loop (fun k fr h' => h' = h ∧ ∃ i : Nat, k = l.length - i ∧ i ≤ l.length ∧ i ≤ 121 ∧ fr.get 0 = some v ∧ fr.get 3 = some (.int .i64 i) ∧ ∀ x ∈ l.take i, smallD x = true) l.length ⟨rfl, 0, rfl, Nat.zero_le _, Nat.zero_le _, ?_, ?_, by simp⟩ ?_
  · repeat' (first | simp only [evr, nextP_norm, evd, evq, beq_self_eq_true, cond_true, cond_false, reduceIte, Nat.reduceEqDiff, Nat.reduceAdd, Int.reduceBNe, Int.reduceBEq, Int.reduceLT, Int.reduceLE, Int.reduceEq, evh, evp, Nat.reduceLeDiff, Nat.reduceSub, Nat.reduceBEq, typs] | refine kCond2_by (fun hc => ?_) (fun hc => ?_) <;> try simp only [hc] | refine kPick_by (fun hc => ?_) (fun hc => ?_) <;> try simp only [hc] | refine kWant_by (fun hc => ?_) (fun hc => ?_) <;> try simp only [hc])
  · repeat' (first | simp only [evr, nextP_norm, evd, evq, beq_self_eq_true, cond_true, cond_false, reduceIte, Nat.reduceEqDiff, Nat.reduceAdd, Int.reduceBNe, Int.reduceBEq, Int.reduceLT, Int.reduceLE, Int.reduceEq, evh, evp, Nat.reduceLeDiff, Nat.reduceSub, Nat.reduceBEq, typs] | refine kCond2_by (fun hc => ?_) (fun hc => ?_) <;> try simp only [hc] | refine kPick_by (fun hc => ?_) (fun hc => ?_) <;> try simp only [hc] | refine kWant_by (fun hc => ?_) (fun hc => ?_) <;> try simp only [hc])
    rfl
  rintro k fr h1 ⟨he, i, rfl, hi, h121, r0, r3, hp⟩
  rw [he]
  clear he
  by_cases h3 : i < l.length
  · have f3 : decide ((i : Int) < (l.length : Int)) = true := decide_eq_true (by omega)
    obtain ⟨b, o, all, sl, pa, hb, hr, hz, hc, hs⟩ := s.at (List.getElem?_eq_getElem h3)
    obtain ⟨q2, q3, q7, q9⟩ := dd_cell hc
    have le := TmSl.len hs
    have no : smallD l[i] = false → Value.bool false = .bool (small l) := fun e => by
      have : small l = false := by
        unfold small
        rw [Bool.and_eq_false_iff]; right
        rw [List.all_eq_false]; exact ⟨_, List.getElem_mem h3, by simp [e]⟩
      rw [this]
    have yes : small l = true → ∀ x ∈ l, smallD x = true := fun e => by unfold small at e; rw [Bool.and_eq_true, List.all_eq_true] at e; exact e.2
    by_cases h4 : i = 121
    · subst h4
      have f4 : decide ((120 : Int) < ((121 : Nat) : Int)) = true := rfl
      repeat' (first | simp only [evr, nextP_norm, evd, evq, beq_self_eq_true, cond_true, cond_false, reduceIte, Nat.reduceEqDiff, Nat.reduceAdd, Int.reduceBNe, Int.reduceBEq, Int.reduceLT, Int.reduceLE, Int.reduceEq, evh, evp, Nat.reduceLeDiff, Nat.reduceSub, Nat.reduceBEq, typs, r0, r3, ll, f3, f4] | refine kCond2_by (fun hc => ?_) (fun hc => ?_) <;> try simp only [hc] | refine kPick_by (fun hc => ?_) (fun hc => ?_) <;> try simp only [hc] | refine kWant_by (fun hc => ?_) (fun hc => ?_) <;> try simp only [hc])
      rw [show small l = false from by unfold small; rw [Bool.and_eq_false_iff]; left; simp; omega]
    have f4 : decide ((120 : Int) < (i : Int)) = false := decide_eq_false (by omega)
    by_cases h5 : ¬ l[i].name.size ≤ 200
    · have f5 : decide ((200 : Int) < (l[i].name.size : Int)) = true := decide_eq_true (by omega)
      repeat' (first | simp only [evr, nextP_norm, evd, evq, beq_self_eq_true, cond_true, cond_false, reduceIte, Nat.reduceEqDiff, Nat.reduceAdd, Int.reduceBNe, Int.reduceBEq, Int.reduceLT, Int.reduceLE, Int.reduceEq, evh, evp, Nat.reduceLeDiff, Nat.reduceSub, Nat.reduceBEq, typs, r0, r3, ll, f3, f4, pa, hr, q2, f5] | refine kCond2_by (fun hc => ?_) (fun hc => ?_) <;> try simp only [hc] | refine kPick_by (fun hc => ?_) (fun hc => ?_) <;> try simp only [hc] | refine kWant_by (fun hc => ?_) (fun hc => ?_) <;> try simp only [hc])
      exact no (by unfold smallD; simp [h5])
    have f5 : decide ((200 : Int) < (l[i].name.size : Int)) = false := decide_eq_false (by omega)
    by_cases h6 : ¬ l[i].more.size ≤ 200
    · have f6 : decide ((200 : Int) < (l[i].more.size : Int)) = true := decide_eq_true (by omega)
      repeat' (first | simp only [evr, nextP_norm, evd, evq, beq_self_eq_true, cond_true, cond_false, reduceIte, Nat.reduceEqDiff, Nat.reduceAdd, Int.reduceBNe, Int.reduceBEq, Int.reduceLT, Int.reduceLE, Int.reduceEq, evh, evp, Nat.reduceLeDiff, Nat.reduceSub, Nat.reduceBEq, typs, r0, r3, ll, f3, f4, pa, hr, q2, f5, q3, f6] | refine kCond2_by (fun hc => ?_) (fun hc => ?_) <;> try simp only [hc] | refine kPick_by (fun hc => ?_) (fun hc => ?_) <;> try simp only [hc] | refine kWant_by (fun hc => ?_) (fun hc => ?_) <;> try simp only [hc])
      exact no (by unfold smallD; simp [h6])
    have f6 : decide ((200 : Int) < (l[i].more.size : Int)) = false := decide_eq_false (by omega)
    by_cases h7 : ¬ l[i].b.link.size ≤ 400
    · have f7 : decide ((400 : Int) < (l[i].b.link.size : Int)) = true := decide_eq_true (by omega)
      repeat' (first | simp only [evr, nextP_norm, evd, evq, beq_self_eq_true, cond_true, cond_false, reduceIte, Nat.reduceEqDiff, Nat.reduceAdd, Int.reduceBNe, Int.reduceBEq, Int.reduceLT, Int.reduceLE, Int.reduceEq, evh, evp, Nat.reduceLeDiff, Nat.reduceSub, Nat.reduceBEq, typs, r0, r3, ll, f3, f4, pa, hr, q2, f5, q3, f6, q7, f7] | refine kCond2_by (fun hc => ?_) (fun hc => ?_) <;> try simp only [hc] | refine kPick_by (fun hc => ?_) (fun hc => ?_) <;> try simp only [hc] | refine kWant_by (fun hc => ?_) (fun hc => ?_) <;> try simp only [hc])
      exact no (by unfold smallD; simp [h7])
    have f7 : decide ((400 : Int) < (l[i].b.link.size : Int)) = false := decide_eq_false (by omega)
    by_cases h8 : ¬ l[i].b.acl.length ≤ 40
    · have f8 : decide ((40 : Int) < (l[i].b.acl.length : Int)) = true := decide_eq_true (by omega)
      repeat' (first | simp only [evr, nextP_norm, evd, evq, beq_self_eq_true, cond_true, cond_false, reduceIte, Nat.reduceEqDiff, Nat.reduceAdd, Int.reduceBNe, Int.reduceBEq, Int.reduceLT, Int.reduceLE, Int.reduceEq, evh, evp, Nat.reduceLeDiff, Nat.reduceSub, Nat.reduceBEq, typs, r0, r3, ll, f3, f4, pa, hr, q2, f5, q3, f6, q7, f7, q9, le, f8] | refine kCond2_by (fun hc => ?_) (fun hc => ?_) <;> try simp only [hc] | refine kPick_by (fun hc => ?_) (fun hc => ?_) <;> try simp only [hc] | refine kWant_by (fun hc => ?_) (fun hc => ?_) <;> try simp only [hc])
      exact no (by unfold smallD; simp [h8])
    have f8 : decide ((40 : Int) < (l[i].b.acl.length : Int)) = false := decide_eq_false (by omega)
    have wi : IntKind.i64.wrap ((i : Int) + 1) = ((i + 1 : Nat) : Int) := by rw [wrap64 (by omega) (by omega)]; omega
    have ok : smallD l[i] = true := by simp only [Decidable.not_not] at h5 h6 h7 h8; unfold smallD; simp [h5, h6, h7, h8]
    repeat' (first | simp only [evr, nextP_norm, evd, evq, beq_self_eq_true, cond_true, cond_false, reduceIte, Nat.reduceEqDiff, Nat.reduceAdd, Int.reduceBNe, Int.reduceBEq, Int.reduceLT, Int.reduceLE, Int.reduceEq, evh, evp, Nat.reduceLeDiff, Nat.reduceSub, Nat.reduceBEq, typs, r0, r3, ll, f3, f4, pa, hr, q2, f5, q3, f6, q7, f7, q9, le, f8, wi] | refine kCond2_by (fun hc => ?_) (fun hc => ?_) <;> try simp only [hc] | refine kPick_by (fun hc => ?_) (fun hc => ?_) <;> try simp only [hc] | refine kWant_by (fun hc => ?_) (fun hc => ?_) <;> try simp only [hc])
    refine ⟨l.length - (i + 1), by omega, i + 1, rfl, by omega, by omega, rfl, fun x hx => ?_⟩
    rw [List.take_add_one, List.getElem?_eq_getElem h3, List.mem_append] at hx
    rcases hx with hx | hx
    · exact hp x hx
    · simp at hx; rw [hx]; exact ok
  · have f3 : decide ((i : Int) < (l.length : Int)) = false := decide_eq_false (by omega)
    repeat' (first | simp only [evr, nextP_norm, evd, evq, beq_self_eq_true, cond_true, cond_false, reduceIte, Nat.reduceEqDiff, Nat.reduceAdd, Int.reduceBNe, Int.reduceBEq, Int.reduceLT, Int.reduceLE, Int.reduceEq, evh, evp, Nat.reduceLeDiff, Nat.reduceSub, Nat.reduceBEq, typs, r0, r3, ll, f3] | refine kCond2_by (fun hc => ?_) (fun hc => ?_) <;> try simp only [hc] | refine kPick_by (fun hc => ?_) (fun hc => ?_) <;> try simp only [hc] | refine kWant_by (fun hc => ?_) (fun hc => ?_) <;> try simp only [hc])
    have : small l = true := by
      unfold small
      rw [Bool.and_eq_true, List.all_eq_true]
      exact ⟨decide_eq_true (by omega), fun x hx => hp x (by rw [List.take_of_length_le (by omega)]; exact hx)⟩
    rw [this]
end Go.Proofs.YtncmgiddcefpcaaGreatDoor
namespace Go.Proofs.YtncmgiddcefpcaaGreatDoor
open Go Go.Ev Go.Con
set_option linter.unusedSimpArgs false
set_option linter.unusedVariables false
set_option maxRecDepth 100000
structure Both (h0 H : Hp) (T : Hi) (bt br n : Nat) : Prop where
  k : Keep h0 H
  few : T.Few n
  kin : T.Kin
  two : ∃ F G, Two H (fun k => k < h0.next) F G T T bt br
section
variable {h0 H h' : Hp} {T : Hi} {bt br n : Nat}
theorem Both.keeps (x : Both h0 H T bt br n) (k : Keep H h') : Both h0 h' T bt br n := by
  obtain ⟨a, b, c, F, G, w⟩ := x
  exact ⟨a.trans k, b, c, F, G, w.keeps k⟩
theorem Both.t (x : Both h0 H T bt br n) : ∃ F, TreeAt H F T bt := by obtain ⟨_, _, _, F, G, w⟩ := x; exact ⟨F, w.t⟩
theorem Both.r (x : Both h0 H T bt br n) : ∃ G, RefAt H G T br := by obtain ⟨_, _, _, F, G, w⟩ := x; exact ⟨G, w.r⟩
theorem Both.ok (x : Both h0 H T bt br n) : T.Ok := by obtain ⟨_, _, _, F, G, w⟩ := x; obtain ⟨_, _, _, _, t⟩ := w.t; exact t.ok
theorem Both.kinds (x : Both h0 H T bt br n) : T.Kinds := x.kin.kinds x.ok
theorem Both.acl (x : Both h0 H T bt br n) : ∀ i, (T.br i).acl.length ≤ 1000000000 := by obtain ⟨_, _, _, F, G, w⟩ := x; obtain ⟨_, _, _, _, t⟩ := w.t; exact t.acl
theorem both_start {h1 h2 : Hp} {F G : Nat → Prop} (k1 : Keep h0 h1) (t : TreeAt h1 F newHi bt) (hF : ∀ k, F k → h0.next ≤ k) (k2 : Keep h1 h2) (r : RefAt h2 G newHi br) (hG : ∀ k, G k → h1.next ≤ k) : Both h0 h2 newHi bt br 0 :=
  ⟨k1.trans k2, Hi.newHi_few, Hi.newHi_kin, F, G, Two.start k1 t hF k2 r hG⟩
theorem both_do (x : Both h0 H T bt br n) (hn : n ≤ 1000) (d : Dd) {sl : Value} (hs : TmSl h0 sl d.b.acl) (hl : d.b.acl.length ≤ 1000000000) :
    Meets kon 15 [ptrV bt, ptrV br, .agg (ddC d sl).toArray] H fun v h' => v = .bool true ∧ Both h0 h' (T.step d) bt br (n + 1) := by
  obtain ⟨a, b, c, F, G, w⟩ := x
  refine (do_spec w (b.mono hn) d (fun h' h1 h2 => SlAt.keep hs ⟨Nat.le_trans a.1 h1, fun k hk => (h2 k hk).trans (a.2 k hk)⟩) hl).mono ?_
  rintro v h' ⟨rfl, F', G', w', h1, h2⟩
  exact ⟨rfl, ⟨Nat.le_trans a.1 h1, fun k hk => (h2 k hk).trans (a.2 k hk)⟩, b.step d, c.step d, F', G', w'⟩
end
theorem small_len {l : List Dd} (h : small l = true) : l.length ≤ 121 ∧ ∀ d ∈ l, d.b.acl.length ≤ 1000000000 := by
  unfold small at h
  rw [Bool.and_eq_true, List.all_eq_true] at h
  refine ⟨of_decide_eq_true h.1, fun d hd => ?_⟩
  have := h.2 d hd
  unfold smallD at this
  simp only [Bool.and_eq_true, decide_eq_true_eq] at this
  omega
theorem steps_take {l : List Dd} {i : Nat} (h : i < l.length) : newHi.steps (l.take (i + 1)) = (newHi.steps (l.take i)).step l[i] := by
  rw [List.take_add_one, List.getElem?_eq_getElem h]; exact Hi.steps_app _ _ _
end Go.Proofs.YtncmgiddcefpcaaGreatDoor
namespace Go.Con
open Go
set_option linter.unusedSimpArgs false
set_option linter.unusedVariables false
def fstI {α : Type} (p : α → Bool) (l : List α) : Int := match l.findIdx? fun m => !p m with
  | some k => k
  | none => -1
theorem fstI_ge {α : Type} (p : α → Bool) (l : List α) : -1 ≤ fstI p l := by unfold fstI; split <;> omega
theorem fstI_app {α : Type} (p : α → Bool) (a b : List α) : fstI p (a ++ b) = if fstI p a ≠ -1 then fstI p a else if fstI p b ≠ -1 then a.length + fstI p b else -1 := by
  unfold fstI
  rw [List.findIdx?_append]
  cases ha : a.findIdx? (fun m => !p m) with
  | some i => simp <;> omega
  | none =>
    cases hb : b.findIdx? (fun m => !p m) with
    | some i => simp <;> omega
    | none => simp
theorem fstI_snoc {α : Type} (p : α → Bool) (a : List α) (x : α) : fstI p (a ++ [x]) = if fstI p a ≠ -1 then fstI p a else if p x = false then a.length else -1 := by
  rw [fstI_app]
  have : fstI p [x] = if p x = false then 0 else -1 := by unfold fstI; cases h : p x <;> simp [h]
  rw [this]
  cases p x <;> simp
def plcs {α : Type} (p : α → Bool) (l : List α) : List Nat := (l.zipIdx.filter fun x => p x.1).map (·.2)
theorem plcs_snoc {α : Type} (p : α → Bool) (a : List α) (x : α) : plcs p (a ++ [x]) = plcs p a ++ if p x then [a.length] else [] := by
  unfold plcs
  rw [List.zipIdx_append, List.filter_append, List.map_append]
  cases h : p x <;> simp [h]
theorem plcs_len {α : Type} (p : α → Bool) (l : List α) : (plcs p l).length = l.countP p := by
  unfold plcs
  rw [List.length_map, ← List.countP_eq_length_filter]
  have : l = l.zipIdx.map (·.1) := by simp
  conv => rhs; rw [this]
  rw [List.countP_map]; rfl
theorem plcs_le {α : Type} (p : α → Bool) (l : List α) : (plcs p l).length ≤ l.length := by rw [plcs_len]; exact List.countP_le_length
end Go.Con
