/- What a user may, by an access list: the reference's Find; the descriptor of a segment. -/
import Derived.Test.YtncmgiddcefpcaaGreatDoorConFd
import Derived.Test.YtncmgiddcefpcaaGreatDoorConR
namespace Go.Proofs.YtncmgiddcefpcaaGreatDoor
open Go Go.Ev Go.Con
set_option linter.unusedSimpArgs false
set_option linter.unusedVariables false
set_option maxRecDepth 100000
def lastF (u : ByteArray) (f : Fl) (l : List Tm) : Fl := l.foldl (fun f t => if t.user = u then t.f else f) f
theorem lastF_snoc {u : ByteArray} {f : Fl} {l : List Tm} {i : Nat} {x : Tm} (hi : l[i]? = some x) : lastF u f (l.take (i + 1)) = if x.user = u then x.f else lastF u f (l.take i) := by
  obtain ⟨h3, rfl⟩ := List.getElem?_eq_some_iff.1 hi
  unfold lastF
  rw [← List.take_append_getElem h3, List.foldl_append]; rfl
theorem lastF_none {u : ByteArray} : ∀ {l : List Tm} {f : Fl}, (∀ t ∈ l, t.user ≠ u) → lastF u f l = f
  | [], f, _ => rfl
  | a :: l, f, h => by
    show lastF u (if a.user = u then a.f else f) l = f
    rw [if_neg (h a (List.mem_cons_self ..)), lastF_none fun t ht => h t (List.mem_cons_of_mem _ ht)]
theorem lastF_find {u : ByteArray} : ∀ {l : List Tm} {f : Fl}, (l.map (·.user)).Nodup → lastF u f l = match l.find? fun t => decide (t.user = u) with
    | some t => t.f
    | none => f
  | [], f, _ => rfl
  | a :: l, f, h => by
    rw [List.map_cons, List.nodup_cons] at h
    show lastF u (if a.user = u then a.f else f) l = _
    rw [List.find?_cons]
    by_cases ha : a.user = u
    · rw [if_pos ha, decide_eq_true ha, lastF_none fun t ht e => h.1 (by rw [ha, ← e]; exact List.mem_map_of_mem ht)]
    · rw [if_neg ha, decide_eq_false ha]
      exact lastF_find h.2
theorem ltS_trans {a b c : ByteArray} (h1 : ltS a b = true) (h2 : ltS b c = true) : ltS a c = true := by
  unfold ltS at *
  exact decide_eq_true (List.lt_trans (of_decide_eq_true h1) (of_decide_eq_true h2))
theorem ltS_irrefl (a : ByteArray) : ltS a a = false := by unfold ltS; exact decide_eq_false (List.lt_irrefl _)
theorem listMay_lt {l : List Tm} (hm : listMay l = true) : ∀ (j i : Nat), i < j → j < l.length → ltS (tmAt l i).user (tmAt l j).user = true := by
  unfold listMay at hm
  simp only [Bool.and_eq_true, List.all_eq_true, List.mem_range] at hm
  intro j
  induction j with
  | zero => intro i h; omega
  | succ j ih =>
    intro i hij hj
    have := hm.1 (j + 1) hj
    unfold okAt at this
    simp only [Bool.and_eq_true, Bool.or_eq_true, decide_eq_true_eq, Nat.add_sub_cancel] at this
    have hs : ltS (tmAt l j).user (tmAt l (j + 1)).user = true := by
      rcases this.2 with h | h
      · omega
      · exact h
    by_cases hi : i = j
    · subst hi; exact hs
    · exact ltS_trans (ih i (by omega) (by omega)) hs
theorem listMay_nodup {l : List Tm} (hm : listMay l = true) : (l.map (·.user)).Nodup := by
  rw [List.Nodup, List.pairwise_iff_getElem]
  intro i j hi hj hij e
  rw [List.length_map] at hi hj
  have := listMay_lt hm j i hij hj
  rw [tmAt_eq (List.getElem?_eq_getElem hi), tmAt_eq (List.getElem?_eq_getElem hj)] at this
  simp only [List.getElem_map] at e
  rw [e, ltS_irrefl] at this; cases this
theorem refFind_eq {l : List Tm} (hm : listMay l = true) (u : ByteArray) : lastF u (lastF star noFl l) l = findF l u := by
  have hn := listMay_nodup hm
  rw [lastF_find hn, lastF_find hn]
  unfold findF
  rw [hm]
  rfl
theorem TmSl.addr {h : Hp} {v : Value} {l : List Tm} (s : TmSl h v l) {i : Nat} {x : Tm} (hi : l[i]? = some x) : ∃ b o all, evIndexAddr kon.P 30 v (.int .i64 i) = some (.pointer (some ⟨b, o, none⟩)) ∧ b < h.next ∧
    rowOf h b = some all ∧ all[o]? = some (.string x.user) ∧ decide (o + 4 ≤ all.length) = true ∧ (all.drop (o + 1)).take 3 = [.bool x.f.r, .bool x.f.w, .bool x.f.e] := by
  obtain ⟨b, o, all, h1, h2, h3, h4, h5⟩ := s.at hi
  refine ⟨b, o, all, h1, h2, h3, ?_, decide_eq_true h4, ?_⟩
  · have := congrArg (fun c : List Value => c[0]?) h5
    simpa [tmC] using this
  · have h6 : (all.drop (o + 1)).take 3 = ((all.drop o).take 4).drop 1 := by
      rw [List.drop_take, List.drop_drop]
    rw [h6, h5]; rfl
set_option maxHeartbeats 2000000 in
theorem refFind_spec {h : Hp} {v : Value} {l : List Tm} (s : TmSl h v l) (hl : l.length ≤ 1000000000) (u : ByteArray) :
    Meets kon 65 [v, .string u] h fun w h' => w = flV (findF l u) ∧ Keep h h' := by
  refine Meets.mk rfl (by kernel_rfl) Tryz.func65 rfl (congrArg Array.toList Tryz.results65) ?_
  repeat' (first | simp only [evr, nextP_norm, evd, evq, beq_self_eq_true, cond_true, cond_false, reduceIte, Nat.reduceEqDiff, Nat.reduceAdd, Int.reduceBNe, Int.reduceBEq, Int.reduceLT, Int.reduceLE, Int.reduceEq, evh, evp, Nat.reduceLeDiff, Nat.reduceSub, Nat.reduceBEq, typs] | refine kCond2_by (fun hc => ?_) (fun hc => ?_) <;> try simp only [hc] | refine kPick_by (fun hc => ?_) (fun hc => ?_) <;> try simp only [hc] | refine kWant_by (fun hc => ?_) (fun hc => ?_) <;> try simp only [hc])
  generalize hh : Hp.set _ (h.next + 1) _ = h1
  have z1 : h1.get h.next = some (.row [.bool false, .bool false, .bool false] 62 (.rw 0 [])) := by rw [← hh, Hp.get_set_ne (by omega), Hp.get_push_lt (Nat.lt_succ_self _)]; exact Hp.get_push_self _ _
  have x1 : h1.get (h.next + 1) = some (.row (flC noFl) 62 (.rw 0 [])) := by rw [← hh]; exact Hp.get_set_self _ _ _
  have k1 : Keep h h1 := by rw [← hh]; exact ((Keep.push _ _).pushed).set (Nat.le_succ _)
  have n1 : h1.next = h.next + 2 := by rw [← hh]; rfl
  clear hh
  have s1 : TmSl h1 v l := SlAt.keep s k1
  have hlm := (refListMay_spec s1 hl).call
  have la := s1.len
  have y1 := rowOf_rw x1
  unfold flC noFl at x1 y1
  cases hm : listMay l with
  | false =>
    rw [hm] at hlm
    repeat' (first | simp only [evr, nextP_norm, evd, evq, beq_self_eq_true, cond_true, cond_false, reduceIte, Nat.reduceEqDiff, Nat.reduceAdd, Int.reduceBNe, Int.reduceBEq, Int.reduceLT, Int.reduceLE, Int.reduceEq, evh, evp, Nat.reduceLeDiff, Nat.reduceSub, Nat.reduceBEq, typs, hlm, y1, x1, z1] | refine kCond2_by (fun hc => ?_) (fun hc => ?_) <;> try simp only [hc] | refine kPick_by (fun hc => ?_) (fun hc => ?_) <;> try simp only [hc] | refine kWant_by (fun hc => ?_) (fun hc => ?_) <;> try simp only [hc])
    refine ⟨?_, k1.set (Nat.le_refl _)⟩
    unfold findF; rw [hm]; rfl
  | true =>
    rw [hm] at hlm
    repeat' (first | simp only [evr, nextP_norm, evd, evq, beq_self_eq_true, cond_true, cond_false, reduceIte, Nat.reduceEqDiff, Nat.reduceAdd, Int.reduceBNe, Int.reduceBEq, Int.reduceLT, Int.reduceLE, Int.reduceEq, evh, evp, Nat.reduceLeDiff, Nat.reduceSub, Nat.reduceBEq, typs, hlm] | refine kCond2_by (fun hc => ?_) (fun hc => ?_) <;> try simp only [hc] | refine kPick_by (fun hc => ?_) (fun hc => ?_) <;> try simp only [hc] | refine kWant_by (fun hc => ?_) (fun hc => ?_) <;> try simp only [hc])
    -- the first loop
    have blt : ∀ {h' : Hp} {b : Nat}, Keep h h' → b < h.next → rowOf h' b = rowOf h b := fun k hb => k.row hb
    refine Wp_loop (fun k fr h' => Keep h h' ∧ h'.next = h1.next ∧ ∃ i : Nat, k = l.length - i ∧ i ≤ l.length ∧ fr.get 0 = some v ∧ fr.get 1 = some (.string u) ∧ fr.get 4 = some (.pointer (some ⟨h.next, 0, none⟩)) ∧ fr.get 5 = some (.pointer (some ⟨h.next + 1, 0, none⟩)) ∧ fr.get 6 = some (.int .i64 i) ∧
      h'.get h.next = some (.row [.bool false, .bool false, .bool false] 62 (.rw 0 [])) ∧ h'.get (h.next + 1) = some (.row (flC (lastF star noFl (l.take i))) 62 (.rw 0 []))) l.length ⟨k1, rfl, 0, rfl, Nat.zero_le _, ?_, ?_, ?_, ?_, ?_, z1, ?_⟩ ?_
    · repeat' (first | simp only [evr, nextP_norm, evd, evq, beq_self_eq_true, cond_true, cond_false, reduceIte, Nat.reduceEqDiff, Nat.reduceAdd, Int.reduceBNe, Int.reduceBEq, Int.reduceLT, Int.reduceLE, Int.reduceEq, evh, evp, Nat.reduceLeDiff, Nat.reduceSub, Nat.reduceBEq, typs] | refine kCond2_by (fun hc => ?_) (fun hc => ?_) <;> try simp only [hc] | refine kPick_by (fun hc => ?_) (fun hc => ?_) <;> try simp only [hc] | refine kWant_by (fun hc => ?_) (fun hc => ?_) <;> try simp only [hc])
    · repeat' (first | simp only [evr, nextP_norm, evd, evq, beq_self_eq_true, cond_true, cond_false, reduceIte, Nat.reduceEqDiff, Nat.reduceAdd, Int.reduceBNe, Int.reduceBEq, Int.reduceLT, Int.reduceLE, Int.reduceEq, evh, evp, Nat.reduceLeDiff, Nat.reduceSub, Nat.reduceBEq, typs] | refine kCond2_by (fun hc => ?_) (fun hc => ?_) <;> try simp only [hc] | refine kPick_by (fun hc => ?_) (fun hc => ?_) <;> try simp only [hc] | refine kWant_by (fun hc => ?_) (fun hc => ?_) <;> try simp only [hc])
    · repeat' (first | simp only [evr, nextP_norm, evd, evq, beq_self_eq_true, cond_true, cond_false, reduceIte, Nat.reduceEqDiff, Nat.reduceAdd, Int.reduceBNe, Int.reduceBEq, Int.reduceLT, Int.reduceLE, Int.reduceEq, evh, evp, Nat.reduceLeDiff, Nat.reduceSub, Nat.reduceBEq, typs] | refine kCond2_by (fun hc => ?_) (fun hc => ?_) <;> try simp only [hc] | refine kPick_by (fun hc => ?_) (fun hc => ?_) <;> try simp only [hc] | refine kWant_by (fun hc => ?_) (fun hc => ?_) <;> try simp only [hc])
    · repeat' (first | simp only [evr, nextP_norm, evd, evq, beq_self_eq_true, cond_true, cond_false, reduceIte, Nat.reduceEqDiff, Nat.reduceAdd, Int.reduceBNe, Int.reduceBEq, Int.reduceLT, Int.reduceLE, Int.reduceEq, evh, evp, Nat.reduceLeDiff, Nat.reduceSub, Nat.reduceBEq, typs] | refine kCond2_by (fun hc => ?_) (fun hc => ?_) <;> try simp only [hc] | refine kPick_by (fun hc => ?_) (fun hc => ?_) <;> try simp only [hc] | refine kWant_by (fun hc => ?_) (fun hc => ?_) <;> try simp only [hc])
    · repeat' (first | simp only [evr, nextP_norm, evd, evq, beq_self_eq_true, cond_true, cond_false, reduceIte, Nat.reduceEqDiff, Nat.reduceAdd, Int.reduceBNe, Int.reduceBEq, Int.reduceLT, Int.reduceLE, Int.reduceEq, evh, evp, Nat.reduceLeDiff, Nat.reduceSub, Nat.reduceBEq, typs] | refine kCond2_by (fun hc => ?_) (fun hc => ?_) <;> try simp only [hc] | refine kPick_by (fun hc => ?_) (fun hc => ?_) <;> try simp only [hc] | refine kWant_by (fun hc => ?_) (fun hc => ?_) <;> try simp only [hc])
      rfl
    · rw [x1]; rfl
    rintro k fr h' ⟨hk, hn, i, rfl, hi, g0, g1, g4, g5, g6, z, xx⟩
    have s2 : TmSl h' v l := SlAt.keep s hk
    have la := s2.len
    by_cases h3 : i < l.length
    · have e3 : decide ((i : Int) < l.length) = true := by simp; omega
      obtain ⟨x, hx⟩ : ∃ x, l[i]? = some x := ⟨_, List.getElem?_eq_getElem h3⟩
      obtain ⟨b, o, all, ha, hb, hr, hu, hd, hf⟩ := TmSl.addr s2 hx
      have w1 := wrap64 (x := (i : Int) + 1) (by omega) (by omega)
      have hls := lastF_snoc (u := star) (f := noFl) hx
      by_cases hxu : x.user = star
      · have e4 : decide (x.user = (ByteArray.mk #[42])) = true := decide_eq_true hxu
        rw [if_pos hxu] at hls
        unfold flC at xx
        repeat' (first | simp only [evr, nextP_norm, evd, evq, beq_self_eq_true, cond_true, cond_false, reduceIte, Nat.reduceEqDiff, Nat.reduceAdd, Int.reduceBNe, Int.reduceBEq, Int.reduceLT, Int.reduceLE, Int.reduceEq, evh, evp, Nat.reduceLeDiff, Nat.reduceSub, Nat.reduceBEq, typs, la, g0, g1, g4, g5, g6, e3, ha, hr, hu, hd, hf, e4, w1, xx] | refine kCond2_by (fun hc => ?_) (fun hc => ?_) <;> try simp only [hc] | refine kPick_by (fun hc => ?_) (fun hc => ?_) <;> try simp only [hc] | refine kWant_by (fun hc => ?_) (fun hc => ?_) <;> try simp only [hc])
        refine ⟨l.length - (i + 1), by omega, hk.set (by omega), hn, i + 1, rfl, by omega, rfl, ?_, ?_⟩
        · exact z
        · rw [hls]; rfl
      · have e4 : decide (x.user = (ByteArray.mk #[42])) = false := decide_eq_false hxu
        rw [if_neg hxu] at hls
        repeat' (first | simp only [evr, nextP_norm, evd, evq, beq_self_eq_true, cond_true, cond_false, reduceIte, Nat.reduceEqDiff, Nat.reduceAdd, Int.reduceBNe, Int.reduceBEq, Int.reduceLT, Int.reduceLE, Int.reduceEq, evh, evp, Nat.reduceLeDiff, Nat.reduceSub, Nat.reduceBEq, typs, la, g0, g1, g4, g5, g6, e3, ha, hr, hu, hd, hf, e4, w1] | refine kCond2_by (fun hc => ?_) (fun hc => ?_) <;> try simp only [hc] | refine kPick_by (fun hc => ?_) (fun hc => ?_) <;> try simp only [hc] | refine kWant_by (fun hc => ?_) (fun hc => ?_) <;> try simp only [hc])
        exact ⟨l.length - (i + 1), by omega, hk, hn, i + 1, rfl, by omega, rfl, z, by rw [hls]; exact xx⟩
    · have e3 : decide ((i : Int) < l.length) = false := by simp; omega
      have hi2 : i = l.length := by omega
      subst hi2
      rw [List.take_length] at xx
      repeat' (first | simp only [evr, nextP_norm, evd, evq, beq_self_eq_true, cond_true, cond_false, reduceIte, Nat.reduceEqDiff, Nat.reduceAdd, Int.reduceBNe, Int.reduceBEq, Int.reduceLT, Int.reduceLE, Int.reduceEq, evh, evp, Nat.reduceLeDiff, Nat.reduceSub, Nat.reduceBEq, typs, la, g0, g1, g4, g5, g6, e3] | refine kCond2_by (fun hc => ?_) (fun hc => ?_) <;> try simp only [hc] | refine kPick_by (fun hc => ?_) (fun hc => ?_) <;> try simp only [hc] | refine kWant_by (fun hc => ?_) (fun hc => ?_) <;> try simp only [hc])
      refine Wp_loop (fun k fr h' => Keep h h' ∧ h'.next = h1.next ∧ ∃ i : Nat, k = l.length - i ∧ i ≤ l.length ∧ fr.get 0 = some v ∧ fr.get 1 = some (.string u) ∧ fr.get 4 = some (.pointer (some ⟨h.next, 0, none⟩)) ∧ fr.get 5 = some (.pointer (some ⟨h.next + 1, 0, none⟩)) ∧ fr.get 7 = some (.int .i64 i) ∧
        h'.get h.next = some (.row [.bool false, .bool false, .bool false] 62 (.rw 0 [])) ∧ h'.get (h.next + 1) = some (.row (flC (lastF u (lastF star noFl l) (l.take i))) 62 (.rw 0 []))) l.length ⟨hk, hn, 0, rfl, Nat.zero_le _, ?_, ?_, ?_, ?_, ?_, z, ?_⟩ ?_
      · repeat' (first | simp only [evr, nextP_norm, evd, evq, beq_self_eq_true, cond_true, cond_false, reduceIte, Nat.reduceEqDiff, Nat.reduceAdd, Int.reduceBNe, Int.reduceBEq, Int.reduceLT, Int.reduceLE, Int.reduceEq, evh, evp, Nat.reduceLeDiff, Nat.reduceSub, Nat.reduceBEq, typs, g0] | refine kCond2_by (fun hc => ?_) (fun hc => ?_) <;> try simp only [hc] | refine kPick_by (fun hc => ?_) (fun hc => ?_) <;> try simp only [hc] | refine kWant_by (fun hc => ?_) (fun hc => ?_) <;> try simp only [hc])
      · repeat' (first | simp only [evr, nextP_norm, evd, evq, beq_self_eq_true, cond_true, cond_false, reduceIte, Nat.reduceEqDiff, Nat.reduceAdd, Int.reduceBNe, Int.reduceBEq, Int.reduceLT, Int.reduceLE, Int.reduceEq, evh, evp, Nat.reduceLeDiff, Nat.reduceSub, Nat.reduceBEq, typs, g1] | refine kCond2_by (fun hc => ?_) (fun hc => ?_) <;> try simp only [hc] | refine kPick_by (fun hc => ?_) (fun hc => ?_) <;> try simp only [hc] | refine kWant_by (fun hc => ?_) (fun hc => ?_) <;> try simp only [hc])
      · repeat' (first | simp only [evr, nextP_norm, evd, evq, beq_self_eq_true, cond_true, cond_false, reduceIte, Nat.reduceEqDiff, Nat.reduceAdd, Int.reduceBNe, Int.reduceBEq, Int.reduceLT, Int.reduceLE, Int.reduceEq, evh, evp, Nat.reduceLeDiff, Nat.reduceSub, Nat.reduceBEq, typs, g4] | refine kCond2_by (fun hc => ?_) (fun hc => ?_) <;> try simp only [hc] | refine kPick_by (fun hc => ?_) (fun hc => ?_) <;> try simp only [hc] | refine kWant_by (fun hc => ?_) (fun hc => ?_) <;> try simp only [hc])
      · repeat' (first | simp only [evr, nextP_norm, evd, evq, beq_self_eq_true, cond_true, cond_false, reduceIte, Nat.reduceEqDiff, Nat.reduceAdd, Int.reduceBNe, Int.reduceBEq, Int.reduceLT, Int.reduceLE, Int.reduceEq, evh, evp, Nat.reduceLeDiff, Nat.reduceSub, Nat.reduceBEq, typs, g5] | refine kCond2_by (fun hc => ?_) (fun hc => ?_) <;> try simp only [hc] | refine kPick_by (fun hc => ?_) (fun hc => ?_) <;> try simp only [hc] | refine kWant_by (fun hc => ?_) (fun hc => ?_) <;> try simp only [hc])
      · repeat' (first | simp only [evr, nextP_norm, evd, evq, beq_self_eq_true, cond_true, cond_false, reduceIte, Nat.reduceEqDiff, Nat.reduceAdd, Int.reduceBNe, Int.reduceBEq, Int.reduceLT, Int.reduceLE, Int.reduceEq, evh, evp, Nat.reduceLeDiff, Nat.reduceSub, Nat.reduceBEq, typs] | refine kCond2_by (fun hc => ?_) (fun hc => ?_) <;> try simp only [hc] | refine kPick_by (fun hc => ?_) (fun hc => ?_) <;> try simp only [hc] | refine kWant_by (fun hc => ?_) (fun hc => ?_) <;> try simp only [hc])
        rfl
      · exact xx
      rintro k fr h' ⟨hk, hn, i, rfl, hi, g0, g1, g4, g5, g7, z, xx⟩
      have s2 : TmSl h' v l := SlAt.keep s hk
      have la := s2.len
      by_cases h3 : i < l.length
      · have e3 : decide ((i : Int) < l.length) = true := by simp; omega
        obtain ⟨x, hx⟩ : ∃ x, l[i]? = some x := ⟨_, List.getElem?_eq_getElem h3⟩
        obtain ⟨b, o, all, ha, hb, hr, hu, hd, hf⟩ := TmSl.addr s2 hx
        have w1 := wrap64 (x := (i : Int) + 1) (by omega) (by omega)
        have hls := lastF_snoc (u := u) (f := lastF star noFl l) hx
        by_cases hxu : x.user = u
        · have e4 : decide (x.user = u) = true := decide_eq_true hxu
          rw [if_pos hxu] at hls
          unfold flC at xx
          repeat' (first | simp only [evr, nextP_norm, evd, evq, beq_self_eq_true, cond_true, cond_false, reduceIte, Nat.reduceEqDiff, Nat.reduceAdd, Int.reduceBNe, Int.reduceBEq, Int.reduceLT, Int.reduceLE, Int.reduceEq, evh, evp, Nat.reduceLeDiff, Nat.reduceSub, Nat.reduceBEq, typs, la, g0, g1, g4, g5, g7, e3, ha, hr, hu, hd, hf, e4, w1, xx] | refine kCond2_by (fun hc => ?_) (fun hc => ?_) <;> try simp only [hc] | refine kPick_by (fun hc => ?_) (fun hc => ?_) <;> try simp only [hc] | refine kWant_by (fun hc => ?_) (fun hc => ?_) <;> try simp only [hc])
          refine ⟨l.length - (i + 1), by omega, hk.set (by omega), hn, i + 1, rfl, by omega, rfl, ?_, ?_⟩
          · exact z
          · rw [hls]; rfl
        · have e4 : decide (x.user = u) = false := decide_eq_false hxu
          rw [if_neg hxu] at hls
          repeat' (first | simp only [evr, nextP_norm, evd, evq, beq_self_eq_true, cond_true, cond_false, reduceIte, Nat.reduceEqDiff, Nat.reduceAdd, Int.reduceBNe, Int.reduceBEq, Int.reduceLT, Int.reduceLE, Int.reduceEq, evh, evp, Nat.reduceLeDiff, Nat.reduceSub, Nat.reduceBEq, typs, la, g0, g1, g4, g5, g7, e3, ha, hr, hu, hd, hf, e4, w1] | refine kCond2_by (fun hc => ?_) (fun hc => ?_) <;> try simp only [hc] | refine kPick_by (fun hc => ?_) (fun hc => ?_) <;> try simp only [hc] | refine kWant_by (fun hc => ?_) (fun hc => ?_) <;> try simp only [hc])
          exact ⟨l.length - (i + 1), by omega, hk, hn, i + 1, rfl, by omega, rfl, z, by rw [hls]; exact xx⟩
      · have e3 : decide ((i : Int) < l.length) = false := by simp; omega
        have hi2 : i = l.length := by omega
        subst hi2
        rw [List.take_length, refFind_eq hm] at xx
        unfold flC at xx
        repeat' (first | simp only [evr, nextP_norm, evd, evq, beq_self_eq_true, cond_true, cond_false, reduceIte, Nat.reduceEqDiff, Nat.reduceAdd, Int.reduceBNe, Int.reduceBEq, Int.reduceLT, Int.reduceLE, Int.reduceEq, evh, evp, Nat.reduceLeDiff, Nat.reduceSub, Nat.reduceBEq, typs, la, g0, g1, g4, g5, g7, e3, xx, rowOf_rw xx, z] | refine kCond2_by (fun hc => ?_) (fun hc => ?_) <;> try simp only [hc] | refine kPick_by (fun hc => ?_) (fun hc => ?_) <;> try simp only [hc] | refine kWant_by (fun hc => ?_) (fun hc => ?_) <;> try simp only [hc])
        exact ⟨rfl, hk.set (Nat.le_refl _)⟩
end Go.Proofs.YtncmgiddcefpcaaGreatDoor
