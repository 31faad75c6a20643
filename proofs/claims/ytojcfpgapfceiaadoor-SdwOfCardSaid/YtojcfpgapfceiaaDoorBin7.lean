/- Texts joined: what the claim needs of them. No condition. -/
import Derived.Test.YtojcfpgapfceiaaDoorBin6
import Derived.Test.YtojcfpgapfceiaaDoorBin4
import Derived.Test.YtojcfpgapfceiaaDoorBin5
import Derived.Shelf.Small.Strs
import Derived.Shelf.Utf8.RuneCount
import Derived.Shelf.Strings.Search1
import Derived.Shelf.Strings.Search2
import Derived.Shelf.Strings.Search3
import Derived.Shelf.Strings.Count
import Derived.Shelf.LaysM
import Derived.Shelf.Strings.Shaped
import Derived.Shelf.Strings.Prefix
import Derived.Shelf.Strings.Split
import Derived.Shelf.Strings.SplitShaped
import Derived.Shelf.Unicode.Decode
import Derived.Shelf.Strings.RuneCount
import Derived.Shelf.Strings.Explode
import Derived.Shelf.Unicode.DecodeSlow
import Derived.Shelf.Unicode.DecodeAny
import Derived.Test.YtojcfpgapfceiaaDoorProg
import Derived.Test.YtojcfpgapfceiaaDoorEvM3
namespace Go.Proofs.YtojcfpgapfceiaaDoor
open Go Go.Ev Go.Con
set_option linter.unusedSimpArgs false
set_option linter.unusedVariables false
set_option maxRecDepth 100000
def lastF (u : ByteArray) (f : Fl) (l : List Tm) : Fl := l.foldl (fun f t => if t.user = u then t.f else f) f
theorem lastF_snoc {u : ByteArray} {f : Fl} {l : List Tm} {i : Nat} {x : Tm} (hi : l[i]? = some x) : lastF u f (l.take (i + 1)) = if x.user = u then x.f else lastF u f (l.take i) := by
  obtain ⟨h3, rfl⟩ := List.getElem?_eq_some_iff.1 hi
  unfold lastF
  rw [← List.take_append_getElem h3, List.foldl_append]; rfl
theorem lastF_none {u : ByteArray} : ∀ {l : List Tm} {f : Fl}, (∀ t ∈ l, t.user ≠ u) → lastF u f l = f
  | [], f, _ => rfl
  | a :: l, f, h => by
    show lastF u (if a.user = u then a.f else f) l = f
    rw [if_neg (h a (List.mem_cons_self ..)), lastF_none fun t ht => h t (List.mem_cons_of_mem _ ht)]
theorem lastF_find {u : ByteArray} : ∀ {l : List Tm} {f : Fl}, (l.map (·.user)).Nodup → lastF u f l = match l.find? fun t => decide (t.user = u) with
    | some t => t.f
    | none => f
  | [], f, _ => rfl
  | a :: l, f, h => by
    rw [List.map_cons, List.nodup_cons] at h
    show lastF u (if a.user = u then a.f else f) l = _
    rw [List.find?_cons]
    by_cases ha : a.user = u
    · rw [if_pos ha, decide_eq_true ha, lastF_none fun t ht e => h.1 (by rw [ha, ← e]; exact List.mem_map_of_mem ht)]
    · rw [if_neg ha, decide_eq_false ha]
      exact lastF_find h.2
theorem ltS_trans {a b c : ByteArray} (h1 : ltS a b = true) (h2 : ltS b c = true) : ltS a c = true := by
  unfold ltS at *
  exact decide_eq_true (List.lt_trans (of_decide_eq_true h1) (of_decide_eq_true h2))
theorem ltS_irrefl (a : ByteArray) : ltS a a = false := by unfold ltS; exact decide_eq_false (List.lt_irrefl _)
theorem listMay_lt {l : List Tm} (hm : listMay l = true) : ∀ (j i : Nat), i < j → j < l.length → ltS (tmAt l i).user (tmAt l j).user = true := by
  unfold listMay at hm
  simp only [Bool.and_eq_true, List.all_eq_true, List.mem_range] at hm
  intro j
  induction j with
  | zero => intro i h; omega
  | succ j ih =>
    intro i hij hj
    have := hm.1 (j + 1) hj
    unfold okAt at this
    simp only [Bool.and_eq_true, Bool.or_eq_true, decide_eq_true_eq, Nat.add_sub_cancel] at this
    have hs : ltS (tmAt l j).user (tmAt l (j + 1)).user = true := by
      rcases this.2 with h | h
      · omega
      · exact h
    by_cases hi : i = j
    · subst hi; exact hs
    · exact ltS_trans (ih i (by omega) (by omega)) hs
theorem listMay_nodup {l : List Tm} (hm : listMay l = true) : (l.map (·.user)).Nodup := by
  rw [List.Nodup, List.pairwise_iff_getElem]
  intro i j hi hj hij e
  rw [List.length_map] at hi hj
  have := listMay_lt hm j i hij hj
  rw [tmAt_eq (List.getElem?_eq_getElem hi), tmAt_eq (List.getElem?_eq_getElem hj)] at this
  simp only [List.getElem_map] at e
  rw [e, ltS_irrefl] at this; cases this
theorem refFind_eq {l : List Tm} (hm : listMay l = true) (u : ByteArray) : lastF u (lastF star noFl l) l = findF l u := by
  have hn := listMay_nodup hm
  rw [lastF_find hn, lastF_find hn]
  unfold findF
  rw [hm]
  rfl
theorem TmSl.addr {h : Hp} {v : Value} {l : List Tm} (s : TmSl h v l) {i : Nat} {x : Tm} (hi : l[i]? = some x) : ∃ b o all, evIndexAddr kon.P 22 v (.int .i64 i) = some (.pointer (some ⟨b, o, none⟩)) ∧ b < h.next ∧
    rowOf h b = some all ∧ all[o]? = some (.string x.user) ∧ decide (o + 4 ≤ all.length) = true ∧ (all.drop (o + 1)).take 3 = [.bool x.f.r, .bool x.f.w, .bool x.f.e] := by
  obtain ⟨b, o, all, h1, h2, h3, h4, h5⟩ := s.at hi
  refine ⟨b, o, all, h1, h2, h3, ?_, decide_eq_true h4, ?_⟩
  · have := congrArg (fun c : List Value => c[0]?) h5
    simpa [tmC] using this
  · have h6 : (all.drop (o + 1)).take 3 = ((all.drop o).take 4).drop 1 := by
      rw [List.drop_take, List.drop_drop]
    rw [h6, h5]; rfl
set_option maxHeartbeats 2000000 in
theorem refFind_spec {h : Hp} {v : Value} {l : List Tm} (s : TmSl h v l) (hl : l.length ≤ 1000000000) (u : ByteArray) :
    Meets kon 10 [v, .string u] h fun w h' => w = flV (findF l u) ∧ Keep h h' := by
  refine Meets.mk rfl (by kernel_rfl) Tryd.func10 rfl (congrArg Array.toList Tryd.results10) ?_
  repeat' (first | simp only [evr, nextP_norm, evd, evq, beq_self_eq_true, cond_true, cond_false, reduceIte, Nat.reduceEqDiff, Nat.reduceAdd, Int.reduceBNe, Int.reduceBEq, Int.reduceLT, Int.reduceLE, Int.reduceEq, evh, evp, Nat.reduceLeDiff, Nat.reduceSub, Nat.reduceBEq, typs] | refine kCond2_by (fun hc => ?_) (fun hc => ?_) <;> try simp only [hc] | refine kPick_by (fun hc => ?_) (fun hc => ?_) <;> try simp only [hc] | refine kWant_by (fun hc => ?_) (fun hc => ?_) <;> try simp only [hc])
  generalize hh : Hp.set _ (h.next + 1) _ = h1
  have z1 : h1.get h.next = some (.row [.bool false, .bool false, .bool false] 39 (.rw 0 [])) := by rw [← hh, Hp.get_set_ne (by omega), Hp.get_push_lt (Nat.lt_succ_self _)]; exact Hp.get_push_self _ _
  have x1 : h1.get (h.next + 1) = some (.row (flC noFl) 39 (.rw 0 [])) := by rw [← hh]; exact Hp.get_set_self _ _ _
  have k1 : Keep h h1 := by rw [← hh]; exact ((Keep.push _ _).pushed).set (Nat.le_succ _)
  have n1 : h1.next = h.next + 2 := by rw [← hh]; rfl
  clear hh
  have s1 : TmSl h1 v l := SlAt.keep s k1
  have hlm := (refListMay_spec s1 hl).call
  have la := s1.len
  have y1 := rowOf_rw x1
  unfold flC noFl at x1 y1
  cases hm : listMay l with
  | false =>
    rw [hm] at hlm
    repeat' (first | simp only [evr, nextP_norm, evd, evq, beq_self_eq_true, cond_true, cond_false, reduceIte, Nat.reduceEqDiff, Nat.reduceAdd, Int.reduceBNe, Int.reduceBEq, Int.reduceLT, Int.reduceLE, Int.reduceEq, evh, evp, Nat.reduceLeDiff, Nat.reduceSub, Nat.reduceBEq, typs, hlm, y1, x1, z1] | refine kCond2_by (fun hc => ?_) (fun hc => ?_) <;> try simp only [hc] | refine kPick_by (fun hc => ?_) (fun hc => ?_) <;> try simp only [hc] | refine kWant_by (fun hc => ?_) (fun hc => ?_) <;> try simp only [hc])
    refine ⟨?_, k1.set (Nat.le_refl _)⟩
    unfold findF; rw [hm]; rfl
  | true =>
    rw [hm] at hlm
    repeat' (first | simp only [evr, nextP_norm, evd, evq, beq_self_eq_true, cond_true, cond_false, reduceIte, Nat.reduceEqDiff, Nat.reduceAdd, Int.reduceBNe, Int.reduceBEq, Int.reduceLT, Int.reduceLE, Int.reduceEq, evh, evp, Nat.reduceLeDiff, Nat.reduceSub, Nat.reduceBEq, typs, hlm] | refine kCond2_by (fun hc => ?_) (fun hc => ?_) <;> try simp only [hc] | refine kPick_by (fun hc => ?_) (fun hc => ?_) <;> try simp only [hc] | refine kWant_by (fun hc => ?_) (fun hc => ?_) <;> try simp only [hc])
    -- the first loop
    have blt : ∀ {h' : Hp} {b : Nat}, Keep h h' → b < h.next → rowOf h' b = rowOf h b := fun k hb => k.row hb
    refine Wp_loop (fun k fr h' => Keep h h' ∧ h'.next = h1.next ∧ ∃ i : Nat, k = l.length - i ∧ i ≤ l.length ∧ fr.get 0 = some v ∧ fr.get 1 = some (.string u) ∧ fr.get 4 = some (.pointer (some ⟨h.next, 0, none⟩)) ∧ fr.get 5 = some (.pointer (some ⟨h.next + 1, 0, none⟩)) ∧ fr.get 6 = some (.int .i64 i) ∧
      h'.get h.next = some (.row [.bool false, .bool false, .bool false] 39 (.rw 0 [])) ∧ h'.get (h.next + 1) = some (.row (flC (lastF star noFl (l.take i))) 39 (.rw 0 []))) l.length ⟨k1, rfl, 0, rfl, Nat.zero_le _, ?_, ?_, ?_, ?_, ?_, z1, ?_⟩ ?_
    · repeat' (first | simp only [evr, nextP_norm, evd, evq, beq_self_eq_true, cond_true, cond_false, reduceIte, Nat.reduceEqDiff, Nat.reduceAdd, Int.reduceBNe, Int.reduceBEq, Int.reduceLT, Int.reduceLE, Int.reduceEq, evh, evp, Nat.reduceLeDiff, Nat.reduceSub, Nat.reduceBEq, typs] | refine kCond2_by (fun hc => ?_) (fun hc => ?_) <;> try simp only [hc] | refine kPick_by (fun hc => ?_) (fun hc => ?_) <;> try simp only [hc] | refine kWant_by (fun hc => ?_) (fun hc => ?_) <;> try simp only [hc])
    · repeat' (first | simp only [evr, nextP_norm, evd, evq, beq_self_eq_true, cond_true, cond_false, reduceIte, Nat.reduceEqDiff, Nat.reduceAdd, Int.reduceBNe, Int.reduceBEq, Int.reduceLT, Int.reduceLE, Int.reduceEq, evh, evp, Nat.reduceLeDiff, Nat.reduceSub, Nat.reduceBEq, typs] | refine kCond2_by (fun hc => ?_) (fun hc => ?_) <;> try simp only [hc] | refine kPick_by (fun hc => ?_) (fun hc => ?_) <;> try simp only [hc] | refine kWant_by (fun hc => ?_) (fun hc => ?_) <;> try simp only [hc])
    · repeat' (first | simp only [evr, nextP_norm, evd, evq, beq_self_eq_true, cond_true, cond_false, reduceIte, Nat.reduceEqDiff, Nat.reduceAdd, Int.reduceBNe, Int.reduceBEq, Int.reduceLT, Int.reduceLE, Int.reduceEq, evh, evp, Nat.reduceLeDiff, Nat.reduceSub, Nat.reduceBEq, typs] | refine kCond2_by (fun hc => ?_) (fun hc => ?_) <;> try simp only [hc] | refine kPick_by (fun hc => ?_) (fun hc => ?_) <;> try simp only [hc] | refine kWant_by (fun hc => ?_) (fun hc => ?_) <;> try simp only [hc])
    · repeat' (first | simp only [evr, nextP_norm, evd, evq, beq_self_eq_true, cond_true, cond_false, reduceIte, Nat.reduceEqDiff, Nat.reduceAdd, Int.reduceBNe, Int.reduceBEq, Int.reduceLT, Int.reduceLE, Int.reduceEq, evh, evp, Nat.reduceLeDiff, Nat.reduceSub, Nat.reduceBEq, typs] | refine kCond2_by (fun hc => ?_) (fun hc => ?_) <;> try simp only [hc] | refine kPick_by (fun hc => ?_) (fun hc => ?_) <;> try simp only [hc] | refine kWant_by (fun hc => ?_) (fun hc => ?_) <;> try simp only [hc])
    · repeat' (first | simp only [evr, nextP_norm, evd, evq, beq_self_eq_true, cond_true, cond_false, reduceIte, Nat.reduceEqDiff, Nat.reduceAdd, Int.reduceBNe, Int.reduceBEq, Int.reduceLT, Int.reduceLE, Int.reduceEq, evh, evp, Nat.reduceLeDiff, Nat.reduceSub, Nat.reduceBEq, typs] | refine kCond2_by (fun hc => ?_) (fun hc => ?_) <;> try simp only [hc] | refine kPick_by (fun hc => ?_) (fun hc => ?_) <;> try simp only [hc] | refine kWant_by (fun hc => ?_) (fun hc => ?_) <;> try simp only [hc])
      rfl
    · rw [x1]; rfl
    rintro k fr h' ⟨hk, hn, i, rfl, hi, g0, g1, g4, g5, g6, z, xx⟩
    have s2 : TmSl h' v l := SlAt.keep s hk
    have la := s2.len
    by_cases h3 : i < l.length
    · have e3 : decide ((i : Int) < l.length) = true := by simp; omega
      obtain ⟨x, hx⟩ : ∃ x, l[i]? = some x := ⟨_, List.getElem?_eq_getElem h3⟩
      obtain ⟨b, o, all, ha, hb, hr, hu, hd, hf⟩ := TmSl.addr s2 hx
      have w1 := wrap64 (x := (i : Int) + 1) (by omega) (by omega)
      have hls := lastF_snoc (u := star) (f := noFl) hx
      by_cases hxu : x.user = star
      · have e4 : decide (x.user = (ByteArray.mk #[42])) = true := decide_eq_true hxu
        rw [if_pos hxu] at hls
        unfold flC at xx
        repeat' (first | simp only [evr, nextP_norm, evd, evq, beq_self_eq_true, cond_true, cond_false, reduceIte, Nat.reduceEqDiff, Nat.reduceAdd, Int.reduceBNe, Int.reduceBEq, Int.reduceLT, Int.reduceLE, Int.reduceEq, evh, evp, Nat.reduceLeDiff, Nat.reduceSub, Nat.reduceBEq, typs, la, g0, g1, g4, g5, g6, e3, ha, hr, hu, hd, hf, e4, w1, xx] | refine kCond2_by (fun hc => ?_) (fun hc => ?_) <;> try simp only [hc] | refine kPick_by (fun hc => ?_) (fun hc => ?_) <;> try simp only [hc] | refine kWant_by (fun hc => ?_) (fun hc => ?_) <;> try simp only [hc])
        refine ⟨l.length - (i + 1), by omega, hk.set (by omega), hn, i + 1, rfl, by omega, rfl, ?_, ?_⟩
        · exact z
        · rw [hls]; rfl
      · have e4 : decide (x.user = (ByteArray.mk #[42])) = false := decide_eq_false hxu
        rw [if_neg hxu] at hls
        repeat' (first | simp only [evr, nextP_norm, evd, evq, beq_self_eq_true, cond_true, cond_false, reduceIte, Nat.reduceEqDiff, Nat.reduceAdd, Int.reduceBNe, Int.reduceBEq, Int.reduceLT, Int.reduceLE, Int.reduceEq, evh, evp, Nat.reduceLeDiff, Nat.reduceSub, Nat.reduceBEq, typs, la, g0, g1, g4, g5, g6, e3, ha, hr, hu, hd, hf, e4, w1] | refine kCond2_by (fun hc => ?_) (fun hc => ?_) <;> try simp only [hc] | refine kPick_by (fun hc => ?_) (fun hc => ?_) <;> try simp only [hc] | refine kWant_by (fun hc => ?_) (fun hc => ?_) <;> try simp only [hc])
        exact ⟨l.length - (i + 1), by omega, hk, hn, i + 1, rfl, by omega, rfl, z, by rw [hls]; exact xx⟩
    · have e3 : decide ((i : Int) < l.length) = false := by simp; omega
      have hi2 : i = l.length := by omega
      subst hi2
      rw [List.take_length] at xx
      repeat' (first | simp only [evr, nextP_norm, evd, evq, beq_self_eq_true, cond_true, cond_false, reduceIte, Nat.reduceEqDiff, Nat.reduceAdd, Int.reduceBNe, Int.reduceBEq, Int.reduceLT, Int.reduceLE, Int.reduceEq, evh, evp, Nat.reduceLeDiff, Nat.reduceSub, Nat.reduceBEq, typs, la, g0, g1, g4, g5, g6, e3] | refine kCond2_by (fun hc => ?_) (fun hc => ?_) <;> try simp only [hc] | refine kPick_by (fun hc => ?_) (fun hc => ?_) <;> try simp only [hc] | refine kWant_by (fun hc => ?_) (fun hc => ?_) <;> try simp only [hc])
      refine Wp_loop (fun k fr h' => Keep h h' ∧ h'.next = h1.next ∧ ∃ i : Nat, k = l.length - i ∧ i ≤ l.length ∧ fr.get 0 = some v ∧ fr.get 1 = some (.string u) ∧ fr.get 4 = some (.pointer (some ⟨h.next, 0, none⟩)) ∧ fr.get 5 = some (.pointer (some ⟨h.next + 1, 0, none⟩)) ∧ fr.get 7 = some (.int .i64 i) ∧
        h'.get h.next = some (.row [.bool false, .bool false, .bool false] 39 (.rw 0 [])) ∧ h'.get (h.next + 1) = some (.row (flC (lastF u (lastF star noFl l) (l.take i))) 39 (.rw 0 []))) l.length ⟨hk, hn, 0, rfl, Nat.zero_le _, ?_, ?_, ?_, ?_, ?_, z, ?_⟩ ?_
      · repeat' (first | simp only [evr, nextP_norm, evd, evq, beq_self_eq_true, cond_true, cond_false, reduceIte, Nat.reduceEqDiff, Nat.reduceAdd, Int.reduceBNe, Int.reduceBEq, Int.reduceLT, Int.reduceLE, Int.reduceEq, evh, evp, Nat.reduceLeDiff, Nat.reduceSub, Nat.reduceBEq, typs, g0] | refine kCond2_by (fun hc => ?_) (fun hc => ?_) <;> try simp only [hc] | refine kPick_by (fun hc => ?_) (fun hc => ?_) <;> try simp only [hc] | refine kWant_by (fun hc => ?_) (fun hc => ?_) <;> try simp only [hc])
      · repeat' (first | simp only [evr, nextP_norm, evd, evq, beq_self_eq_true, cond_true, cond_false, reduceIte, Nat.reduceEqDiff, Nat.reduceAdd, Int.reduceBNe, Int.reduceBEq, Int.reduceLT, Int.reduceLE, Int.reduceEq, evh, evp, Nat.reduceLeDiff, Nat.reduceSub, Nat.reduceBEq, typs, g1] | refine kCond2_by (fun hc => ?_) (fun hc => ?_) <;> try simp only [hc] | refine kPick_by (fun hc => ?_) (fun hc => ?_) <;> try simp only [hc] | refine kWant_by (fun hc => ?_) (fun hc => ?_) <;> try simp only [hc])
      · repeat' (first | simp only [evr, nextP_norm, evd, evq, beq_self_eq_true, cond_true, cond_false, reduceIte, Nat.reduceEqDiff, Nat.reduceAdd, Int.reduceBNe, Int.reduceBEq, Int.reduceLT, Int.reduceLE, Int.reduceEq, evh, evp, Nat.reduceLeDiff, Nat.reduceSub, Nat.reduceBEq, typs, g4] | refine kCond2_by (fun hc => ?_) (fun hc => ?_) <;> try simp only [hc] | refine kPick_by (fun hc => ?_) (fun hc => ?_) <;> try simp only [hc] | refine kWant_by (fun hc => ?_) (fun hc => ?_) <;> try simp only [hc])
      · repeat' (first | simp only [evr, nextP_norm, evd, evq, beq_self_eq_true, cond_true, cond_false, reduceIte, Nat.reduceEqDiff, Nat.reduceAdd, Int.reduceBNe, Int.reduceBEq, Int.reduceLT, Int.reduceLE, Int.reduceEq, evh, evp, Nat.reduceLeDiff, Nat.reduceSub, Nat.reduceBEq, typs, g5] | refine kCond2_by (fun hc => ?_) (fun hc => ?_) <;> try simp only [hc] | refine kPick_by (fun hc => ?_) (fun hc => ?_) <;> try simp only [hc] | refine kWant_by (fun hc => ?_) (fun hc => ?_) <;> try simp only [hc])
      · repeat' (first | simp only [evr, nextP_norm, evd, evq, beq_self_eq_true, cond_true, cond_false, reduceIte, Nat.reduceEqDiff, Nat.reduceAdd, Int.reduceBNe, Int.reduceBEq, Int.reduceLT, Int.reduceLE, Int.reduceEq, evh, evp, Nat.reduceLeDiff, Nat.reduceSub, Nat.reduceBEq, typs] | refine kCond2_by (fun hc => ?_) (fun hc => ?_) <;> try simp only [hc] | refine kPick_by (fun hc => ?_) (fun hc => ?_) <;> try simp only [hc] | refine kWant_by (fun hc => ?_) (fun hc => ?_) <;> try simp only [hc])
        rfl
      · exact xx
      rintro k fr h' ⟨hk, hn, i, rfl, hi, g0, g1, g4, g5, g7, z, xx⟩
      have s2 : TmSl h' v l := SlAt.keep s hk
      have la := s2.len
      by_cases h3 : i < l.length
      · have e3 : decide ((i : Int) < l.length) = true := by simp; omega
        obtain ⟨x, hx⟩ : ∃ x, l[i]? = some x := ⟨_, List.getElem?_eq_getElem h3⟩
        obtain ⟨b, o, all, ha, hb, hr, hu, hd, hf⟩ := TmSl.addr s2 hx
        have w1 := wrap64 (x := (i : Int) + 1) (by omega) (by omega)
        have hls := lastF_snoc (u := u) (f := lastF star noFl l) hx
        by_cases hxu : x.user = u
        · have e4 : decide (x.user = u) = true := decide_eq_true hxu
          rw [if_pos hxu] at hls
          unfold flC at xx
          repeat' (first | simp only [evr, nextP_norm, evd, evq, beq_self_eq_true, cond_true, cond_false, reduceIte, Nat.reduceEqDiff, Nat.reduceAdd, Int.reduceBNe, Int.reduceBEq, Int.reduceLT, Int.reduceLE, Int.reduceEq, evh, evp, Nat.reduceLeDiff, Nat.reduceSub, Nat.reduceBEq, typs, la, g0, g1, g4, g5, g7, e3, ha, hr, hu, hd, hf, e4, w1, xx] | refine kCond2_by (fun hc => ?_) (fun hc => ?_) <;> try simp only [hc] | refine kPick_by (fun hc => ?_) (fun hc => ?_) <;> try simp only [hc] | refine kWant_by (fun hc => ?_) (fun hc => ?_) <;> try simp only [hc])
          refine ⟨l.length - (i + 1), by omega, hk.set (by omega), hn, i + 1, rfl, by omega, rfl, ?_, ?_⟩
          · exact z
          · rw [hls]; rfl
        · have e4 : decide (x.user = u) = false := decide_eq_false hxu
          rw [if_neg hxu] at hls
          repeat' (first | simp only [evr, nextP_norm, evd, evq, beq_self_eq_true, cond_true, cond_false, reduceIte, Nat.reduceEqDiff, Nat.reduceAdd, Int.reduceBNe, Int.reduceBEq, Int.reduceLT, Int.reduceLE, Int.reduceEq, evh, evp, Nat.reduceLeDiff, Nat.reduceSub, Nat.reduceBEq, typs, la, g0, g1, g4, g5, g7, e3, ha, hr, hu, hd, hf, e4, w1] | refine kCond2_by (fun hc => ?_) (fun hc => ?_) <;> try simp only [hc] | refine kPick_by (fun hc => ?_) (fun hc => ?_) <;> try simp only [hc] | refine kWant_by (fun hc => ?_) (fun hc => ?_) <;> try simp only [hc])
          exact ⟨l.length - (i + 1), by omega, hk, hn, i + 1, rfl, by omega, rfl, z, by rw [hls]; exact xx⟩
      · have e3 : decide ((i : Int) < l.length) = false := by simp; omega
        have hi2 : i = l.length := by omega
        subst hi2
        rw [List.take_length, refFind_eq hm] at xx
        unfold flC at xx
        repeat' (first | simp only [evr, nextP_norm, evd, evq, beq_self_eq_true, cond_true, cond_false, reduceIte, Nat.reduceEqDiff, Nat.reduceAdd, Int.reduceBNe, Int.reduceBEq, Int.reduceLT, Int.reduceLE, Int.reduceEq, evh, evp, Nat.reduceLeDiff, Nat.reduceSub, Nat.reduceBEq, typs, la, g0, g1, g4, g5, g7, e3, xx, rowOf_rw xx, z] | refine kCond2_by (fun hc => ?_) (fun hc => ?_) <;> try simp only [hc] | refine kPick_by (fun hc => ?_) (fun hc => ?_) <;> try simp only [hc] | refine kWant_by (fun hc => ?_) (fun hc => ?_) <;> try simp only [hc])
        exact ⟨rfl, hk.set (Nat.le_refl _)⟩
end Go.Proofs.YtojcfpgapfceiaaDoor
namespace Go.Proofs.YtojcfpgapfceiaaDoor
open Go Go.Ev Go.Con
set_option linter.unusedSimpArgs false
set_option linter.unusedVariables false
set_option maxRecDepth 100000
def idV (v : Value) : Value := v
def slW (b n : Nat) : Value := .slice (some ⟨b, 0, none⟩) n (2 * n)
def wdC (w : List Int) : List Value := w.map (.int .u64)
def roomV (S : Sto) (ws : List Nat) (u : Int) : Option Value := (S.room u).map fun w => slW (ws.getD (u.toNat - 1) 0) w.length
structure StoB (h : Hp) (F : Nat → Prop) (S : Sto) (bs bm : Nat) (ws : List Nat) : Prop where
  len : ws.length = S.L.length
  row : h.get bs = some (.row [.int .i64 S.quota, .int .i64 S.used, .int .i64 S.L.length, .map (some bm)] 62 (.rw 0 []))
  m : MapIs keyI idV h bm (roomV S ws)
  wd : ∀ (i : Nat) (w : List Int), S.L[i]? = some (some w) → ∃ b : Nat, ws[i]? = some b ∧ h.get b = some (.row (wdC w) 127 (.rw 0 []))
  nd : ws.Nodup
  nF : ∀ b ∈ ws, F b
  own : F bs ∧ F bm
  lt : ∀ k, F k → k < h.next
  ok : S.Ok
def StoAt (h : Hp) (F : Nat → Prop) (S : Sto) (bs : Nat) : Prop := ∃ bm ws, StoB h F S bs bm ws
section
variable {h : Hp} {F : Nat → Prop} {S : Sto} {bs bm : Nat} {ws : List Nat}
theorem StoB.keep (t : StoB h F S bs bm ws) {h' : Hp} (hn : h.next ≤ h'.next) (hs : ∀ k, F k → h'.get k = h.get k) : StoB h' F S bs bm ws := by
  refine ⟨t.len, by rw [hs bs t.own.1]; exact t.row, t.m.eq (hs bm t.own.2), fun i w hi => ?_, t.nd, t.nF, t.own, fun k hk => Nat.lt_of_lt_of_le (t.lt k hk) hn, t.ok⟩
  obtain ⟨b, h1, h2⟩ := t.wd i w hi
  exact ⟨b, h1, by rw [hs b (t.nF b (List.mem_of_getElem? h1))]; exact h2⟩
theorem StoAt.keep (t : StoAt h F S bs) {h' : Hp} (hn : h.next ≤ h'.next) (hs : ∀ k, F k → h'.get k = h.get k) : StoAt h' F S bs := by
  obtain ⟨bm, ws, t⟩ := t; exact ⟨bm, ws, t.keep hn hs⟩
theorem StoAt.keeps (t : StoAt h F S bs) {h' : Hp} (k : Keep h h') : StoAt h' F S bs := by
  obtain ⟨bm, ws, t⟩ := t; exact ⟨bm, ws, t.keep k.1 fun j hj => k.2 j (t.lt j hj)⟩
theorem StoB.ne (t : StoB h F S bs bm ws) : bs ≠ bm := by obtain ⟨es, ck, hg⟩ := t.m.get; exact get_ne t.row hg (by simp)
theorem StoB.at (t : StoB h F S bs bm ws) {u : Int} {w : List Int} (hr : S.room u = some w) : ∃ b, ws[u.toNat - 1]? = some b ∧ roomV S ws u = some (slW b w.length) ∧ F b ∧ h.get b = some (.row (wdC w) 127 (.rw 0 [])) ∧ b ≠ bs ∧ b ≠ bm := by
  obtain ⟨h1, h2, h3⟩ := Sto.room_some hr
  obtain ⟨b, e1, e2⟩ := t.wd _ w h3
  obtain ⟨es, ck, hg⟩ := t.m.get
  refine ⟨b, e1, ?_, t.nF b (List.mem_of_getElem? e1), e2, get_ne e2 t.row (by simp), get_ne e2 hg (by simp)⟩
  unfold roomV
  rw [hr, List.getD_eq_getElem?_getD, e1]; rfl
theorem StoB.look (t : StoB h F S bs bm ws) (u : Int) (f : Bool) : evLookup kon.P 60 (.map (some bm)) (.int .i64 u) f h = some (match roomV S ws u with
    | some v => bif f then .tuple #[v, .bool true] else v
    | none => bif f then .tuple #[.slice none 0 0, .bool false] else .slice none 0 0) := by
  have := t.m.look (kt := 3) (et := 63) (t := 60) (P := kon.P) (by kernel_rfl) (keyI_ok Tryd.underlying3) (z := .slice none 0 0) (by kernel_rfl) rfl u f
  unfold keyI at this
  rw [this]
  cases roomV S ws u <;> rfl
theorem sNew_spec (q : Int) (h : Hp) : Meets kon 6 [.int .i64 q] h fun v h' => ∃ F bs, v = ptrV bs ∧ Keep h h' ∧ StoAt h' F ⟨max q 0, []⟩ bs ∧ ∀ k, F k → h.next ≤ k := by
  refine Meets.mk rfl (by kernel_rfl) Tryd.func6 rfl (congrArg Array.toList Tryd.results6) ?_
  repeat' (first | simp only [evr, nextP_norm, evd, evq, beq_self_eq_true, cond_true, cond_false, reduceIte, Nat.reduceEqDiff, Nat.reduceAdd, Int.reduceBNe, Int.reduceBEq, Int.reduceLT, Int.reduceLE, Int.reduceEq, evh, evp, Nat.reduceLeDiff, Nat.reduceSub, Nat.reduceBEq, typs, P_max, kMax_two] | refine kCond2_by (fun hc => ?_) (fun hc => ?_) <;> try simp only [hc] | refine kPick_by (fun hc => ?_) (fun hc => ?_) <;> try simp only [hc] | refine kWant_by (fun hc => ?_) (fun hc => ?_) <;> try simp only [hc])
  refine ⟨fun k => h.next ≤ k ∧ k < h.next + 2, h.next + 1, rfl, (Keep.push _ _).pushed, ⟨h.next, [], ⟨rfl, ?_, ?_, fun i w hi => by simp at hi, .nil, by simp, ⟨⟨by omega, by omega⟩, by omega, by omega⟩, fun k hk => hk.2, Sto.Ok.new⟩⟩, fun k hk => hk.1⟩
  · exact Hp.get_push_self (h.push (.map [] 0)) _
  · have hz : roomV ⟨max q 0, []⟩ [] = fun _ => none := by
      funext u
      unfold roomV Sto.room
      split <;> simp
    rw [hz]
    exact (MapIs.new h keyI idV).eq (Hp.get_push_lt (Nat.lt_succ_self _))
theorem sMay_spec (t : StoB h F S bs bm ws) (n g : Int) (hg0 : 0 ≤ g) (hg1 : g ≤ S.used) (hq : S.quota ≤ 9223372036854775807) : Meets kon 18 [ptrV bs, .int .i64 n, .int .i64 g] h fun v h' => v = .int .i64 (S.mayE n g) ∧ h' = h := by
  have hr := rowOf_rw t.row
  have q0 := t.ok.quota
  have u0 := t.ok.used
  unfold ptrV
  refine Meets.mk rfl (by kernel_rfl) Tryd.func18 rfl (congrArg Array.toList Tryd.results18) ?_
  rcases Bool.eq_false_or_eq_true (decide (n < 0)) with e1 | e1
  · have hm : S.mayE n g = 1 := by unfold Sto.mayE; rw [if_pos (.inl (of_decide_eq_true e1))]
    rw [hm]
    repeat' (first | simp only [evr, nextP_norm, evd, evq, beq_self_eq_true, cond_true, cond_false, reduceIte, Nat.reduceEqDiff, Nat.reduceAdd, Int.reduceBNe, Int.reduceBEq, Int.reduceLT, Int.reduceLE, Int.reduceEq, evh, evp, Nat.reduceLeDiff, Nat.reduceSub, Nat.reduceBEq, typs, hr, e1] | refine kCond2_by (fun hc => ?_) (fun hc => ?_) <;> try simp only [hc] | refine kPick_by (fun hc => ?_) (fun hc => ?_) <;> try simp only [hc] | refine kWant_by (fun hc => ?_) (fun hc => ?_) <;> try simp only [hc])
  · rcases Bool.eq_false_or_eq_true (decide ((1024 : Int) < n)) with e2 | e2
    · have hm : S.mayE n g = 1 := by unfold Sto.mayE; rw [if_pos (.inr (of_decide_eq_true e2))]
      rw [hm]
      repeat' (first | simp only [evr, nextP_norm, evd, evq, beq_self_eq_true, cond_true, cond_false, reduceIte, Nat.reduceEqDiff, Nat.reduceAdd, Int.reduceBNe, Int.reduceBEq, Int.reduceLT, Int.reduceLE, Int.reduceEq, evh, evp, Nat.reduceLeDiff, Nat.reduceSub, Nat.reduceBEq, typs, hr, e1, e2] | refine kCond2_by (fun hc => ?_) (fun hc => ?_) <;> try simp only [hc] | refine kPick_by (fun hc => ?_) (fun hc => ?_) <;> try simp only [hc] | refine kWant_by (fun hc => ?_) (fun hc => ?_) <;> try simp only [hc])
    · have f1 := of_decide_eq_false e1
      have f2 := of_decide_eq_false e2
      have w1 := wrap64 (x := (S.used : Int) - g) (by omega) (by omega)
      have w2 := wrap64 (x := S.quota - n) (by omega) (by omega)
      repeat' (first | simp only [evr, nextP_norm, evd, evq, beq_self_eq_true, cond_true, cond_false, reduceIte, Nat.reduceEqDiff, Nat.reduceAdd, Int.reduceBNe, Int.reduceBEq, Int.reduceLT, Int.reduceLE, Int.reduceEq, evh, evp, Nat.reduceLeDiff, Nat.reduceSub, Nat.reduceBEq, typs, hr, e1, e2] | refine kCond2_by (fun hc => ?_) (fun hc => ?_) <;> try simp only [hc] | refine kPick_by (fun hc => ?_) (fun hc => ?_) <;> try simp only [hc] | refine kWant_by (fun hc => ?_) (fun hc => ?_) <;> try simp only [hc])
      refine Eq.mpr (Wp_drawOrd (KR.mk (by kernel_rfl))) ?_
      rcases Bool.eq_false_or_eq_true (decide (S.quota - n < (S.used : Int) - g)) with e3 | e3
      · have hm : S.mayE n g = 6 := by unfold Sto.mayE; rw [if_neg (by omega), if_pos (of_decide_eq_true e3)]
        rw [hm]
        repeat' (first | simp only [evr, nextP_norm, evd, evq, beq_self_eq_true, cond_true, cond_false, reduceIte, Nat.reduceEqDiff, Nat.reduceAdd, Int.reduceBNe, Int.reduceBEq, Int.reduceLT, Int.reduceLE, Int.reduceEq, evh, evp, Nat.reduceLeDiff, Nat.reduceSub, Nat.reduceBEq, typs, hr, w1, w2, e3] | refine kCond2_by (fun hc => ?_) (fun hc => ?_) <;> try simp only [hc] | refine kPick_by (fun hc => ?_) (fun hc => ?_) <;> try simp only [hc] | refine kWant_by (fun hc => ?_) (fun hc => ?_) <;> try simp only [hc])
      · have hm : S.mayE n g = 0 := by unfold Sto.mayE; rw [if_neg (by omega), if_neg (of_decide_eq_false e3)]
        rw [hm]
        repeat' (first | simp only [evr, nextP_norm, evd, evq, beq_self_eq_true, cond_true, cond_false, reduceIte, Nat.reduceEqDiff, Nat.reduceAdd, Int.reduceBNe, Int.reduceBEq, Int.reduceLT, Int.reduceLE, Int.reduceEq, evh, evp, Nat.reduceLeDiff, Nat.reduceSub, Nat.reduceBEq, typs, hr, w1, w2, e3] | refine kCond2_by (fun hc => ?_) (fun hc => ?_) <;> try simp only [hc] | refine kPick_by (fun hc => ?_) (fun hc => ?_) <;> try simp only [hc] | refine kWant_by (fun hc => ?_) (fun hc => ?_) <;> try simp only [hc])
def getV (S : Sto) (ws : List Nat) (u : Int) : Value := match roomV S ws u with
  | some v => .tuple #[v, .int .i64 0]
  | none => .tuple #[.slice none 0 0, .int .i64 4]
theorem sGet_spec (t : StoB h F S bs bm ws) (u : Int) : Meets kon 41 [ptrV bs, .int .i64 u] h fun v h' => v = getV S ws u ∧ h' = h := by
  have hr := rowOf_rw t.row
  have hl := t.look u true
  unfold ptrV getV
  refine Meets.mk rfl (by kernel_rfl) Tryd.func41 rfl (congrArg Array.toList Tryd.results41) ?_
  cases hv : roomV S ws u with
  | none =>
    rw [hv] at hl
    simp only [cond_true] at hl
    repeat' (first | simp only [evr, nextP_norm, evd, evq, beq_self_eq_true, cond_true, cond_false, reduceIte, Nat.reduceEqDiff, Nat.reduceAdd, Int.reduceBNe, Int.reduceBEq, Int.reduceLT, Int.reduceLE, Int.reduceEq, evh, evp, Nat.reduceLeDiff, Nat.reduceSub, Nat.reduceBEq, typs, hr, hl] | refine kCond2_by (fun hc => ?_) (fun hc => ?_) <;> try simp only [hc] | refine kPick_by (fun hc => ?_) (fun hc => ?_) <;> try simp only [hc] | refine kWant_by (fun hc => ?_) (fun hc => ?_) <;> try simp only [hc])
  | some v =>
    rw [hv] at hl
    simp only [cond_true] at hl
    repeat' (first | simp only [evr, nextP_norm, evd, evq, beq_self_eq_true, cond_true, cond_false, reduceIte, Nat.reduceEqDiff, Nat.reduceAdd, Int.reduceBNe, Int.reduceBEq, Int.reduceLT, Int.reduceLE, Int.reduceEq, evh, evp, Nat.reduceLeDiff, Nat.reduceSub, Nat.reduceBEq, typs, hr, hl] | refine kCond2_by (fun hc => ?_) (fun hc => ?_) <;> try simp only [hc] | refine kPick_by (fun hc => ?_) (fun hc => ?_) <;> try simp only [hc] | refine kWant_by (fun hc => ?_) (fun hc => ?_) <;> try simp only [hc])
theorem wdC_zero (k : Nat) : (List.replicate k [Value.int .u64 0]).flatten = wdC (List.replicate k 0) := by
  induction k with
  | zero => rfl
  | succ k ih => rw [List.replicate_succ, List.flatten_cons, ih]; rfl
theorem roomV_made (t : StoB h F S bs bm ws) (k b : Nat) : roomV (S.made k) (ws ++ [b]) = upd (roomV S ws) (S.L.length + 1) (some (slW b k)) := by
  funext u
  unfold roomV
  rw [Sto.room_made]
  by_cases hu : u = S.L.length + 1
  · subst hu
    rw [if_pos rfl, upd_self]
    have : ((S.L.length : Int) + 1).toNat - 1 = ws.length := by rw [t.len]; omega
    rw [this]; simp
  · rw [if_neg hu, upd_ne _ _ hu]
    cases hr : S.room u with
    | none => rfl
    | some w =>
      obtain ⟨h1, h2, h3⟩ := Sto.room_some hr
      simp only [Option.map_some]
      rw [List.getD_eq_getElem?_getD, List.getD_eq_getElem?_getD, List.getElem?_append_left (by rw [t.len]; exact h2)]
theorem sMake_spec (t : StoAt h F S bs) (n : Int) (hq : S.quota ≤ 9223372036854775807) (hL : S.L.length ≤ 1000000000000) : Meets kon 7 [ptrV bs, .int .i64 n] h fun v h' =>
    v = .tuple #[.int .i64 (S.make n).2.1, .int .i64 (S.make n).2.2] ∧ ∃ F', StoAt h' F' (S.make n).1 bs ∧ Upd h F h' F' := by
  obtain ⟨bm, ws, t⟩ := t
  have hr := rowOf_rw t.row
  have hg := t.row
  have hm := (sMay_spec t n 0 (by omega) (by omega) hq).call
  unfold ptrV at hm
  unfold ptrV
  refine Meets.mk rfl (by kernel_rfl) Tryd.func7 rfl (congrArg Array.toList Tryd.results7) ?_
  by_cases he : S.mayE n 0 = 0
  · obtain ⟨m1, m2, m3⟩ := Sto.mayE_zero he
    have u0 := t.ok.used
    have hmk : S.make n = (S.made n, (S.L.length : Int) + 1, 0) := by unfold Sto.make; rw [if_pos he]
    rw [hmk]
    rw [he] at hm
    obtain ⟨k, rfl⟩ := Int.eq_ofNat_of_zero_le m1
    have w1 := wrap64 (x := (S.L.length : Int) + 1) (by omega) (by omega)
    repeat' (first | simp only [evr, nextP_norm, evd, evq, beq_self_eq_true, cond_true, cond_false, reduceIte, Nat.reduceEqDiff, Nat.reduceAdd, Int.reduceBNe, Int.reduceBEq, Int.reduceLT, Int.reduceLE, Int.reduceEq, evh, evp, Nat.reduceLeDiff, Nat.reduceSub, Nat.reduceBEq, typs, hm, hr, hg, w1] | refine kCond2_by (fun hc => ?_) (fun hc => ?_) <;> try simp only [hc] | refine kPick_by (fun hc => ?_) (fun hc => ?_) <;> try simp only [hc] | refine kWant_by (fun hc => ?_) (fun hc => ?_) <;> try simp only [hc])
    generalize hh : h.set bs _ = h1
    have g1 : h1.get bs = some (.row [.int .i64 S.quota, .int .i64 S.used, .int .i64 (S.L.length + 1), .map (some bm)] 62 (.rw 0 [])) := by rw [← hh]; exact Hp.get_set_self _ _ _
    have s1 : ∀ k, k ≠ bs → h1.get k = h.get k := fun k hk => by rw [← hh]; exact Hp.get_set_ne hk
    have n1 : h1.next = h.next := by rw [← hh]; rfl
    clear hh
    have bne := t.ne
    have blt := t.lt _ t.own.1
    have mlt := t.lt _ t.own.2
    have r1 := rowOf_rw g1
    have hmk := L_make (C := kon) (t := 63) (e := 127) (n := 1) (by_ := 8) (z := .int .u64 0) (zs := [.int .u64 0]) (by kernel_rfl) (by kernel_rfl) (by kernel_rfl) (by kernel_rfl) rfl (by kernel_rfl) k (by omega)
    rw [wdC_zero] at hmk
    generalize ho : Ob.row (wdC (List.replicate k 0)) 127 (St.rw 0 []) = ob at hmk
    have m1 : MapIs keyI idV (h1.push ob) bm (roomV S ws) := t.m.eq (by rw [Hp.get_push_lt (by omega), s1 bm (Ne.symm bne)])
    obtain ⟨h3, e3, m3, n3, s3⟩ := m1.put (t := 60) (kt := 3) (et := 63) (P := kon.P) (by kernel_rfl) (keyI_ok Tryd.underlying3) (S.L.length + 1) (slW h.next k)
    unfold keyI idV slW at e3
    have g3 : h3.get bs = some (.row [.int .i64 S.quota, .int .i64 S.used, .int .i64 (S.L.length + 1), .map (some bm)] 62 (.rw 0 [])) := by rw [s3 bs bne, Hp.get_push_lt (by omega)]; exact g1
    have r3 := rowOf_rw g3
    have w2 := wrap64 (x := (S.used : Int) + k) (by omega) (by omega)
    refine Wp_drawE [0, 0, 0, 1, 0, 0, 0, 1, 0, 2, 4] (KR.mk (by kernel_rfl)) ?_
    repeat' (first | simp only [evr, nextP_norm, evd, evq, beq_self_eq_true, cond_true, cond_false, reduceIte, Nat.reduceEqDiff, Nat.reduceAdd, Int.reduceBNe, Int.reduceBEq, Int.reduceLT, Int.reduceLE, Int.reduceEq, evh, evp, Nat.reduceLeDiff, Nat.reduceSub, Nat.reduceBEq, typs, r1, g1, hmk, n1, e3, r3, g3, w2] | refine kCond2_by (fun hc => ?_) (fun hc => ?_) <;> try simp only [hc] | refine kPick_by (fun hc => ?_) (fun hc => ?_) <;> try simp only [hc] | refine kWant_by (fun hc => ?_) (fun hc => ?_) <;> try simp only [hc])
    generalize hh : h3.set bs _ = h4
    have g4 : h4.get bs = some (.row [.int .i64 S.quota, .int .i64 (S.used + k), .int .i64 (S.L.length + 1), .map (some bm)] 62 (.rw 0 [])) := by rw [← hh]; exact Hp.get_set_self _ _ _
    have s4 : ∀ k, k ≠ bs → h4.get k = h3.get k := fun k hk => by rw [← hh]; exact Hp.get_set_ne hk
    have n4 : h4.next = h.next + 1 := by rw [← hh]; show h3.next = _; rw [n3, Hp.next_push, n1]
    clear hh
    have old : ∀ j, j < h.next → j ≠ bs → j ≠ bm → h4.get j = h.get j := fun j h1 h2 h3' => by rw [s4 j h2, s3 j h3', Hp.get_push_lt (by omega), s1 j h2]
    have new : h4.get h.next = some ob := by rw [s4 _ (by omega), s3 _ (by omega), ← n1]; exact Hp.get_push_self _ _
    have hu : ((S.made k).used : Int) = S.used + k := by rw [Sto.used_made]; simp
    refine ⟨fun j => F j ∨ j = h.next, ⟨bm, ws ++ [h.next], ⟨by simp [Sto.made, t.len], ?_, ?_, fun i w hi => ?_, ?_, ?_, ⟨.inl t.own.1, .inl t.own.2⟩, fun j hj => ?_, t.ok.made he⟩⟩, ⟨by omega, fun j h1 h2 => old j h1 (fun e => h2 (e ▸ t.own.1)) (fun e => h2 (e ▸ t.own.2)), fun j hj => hj.imp id (fun e => by omega)⟩⟩
    · rw [g4, hu]; simp [Sto.made]
    · rw [roomV_made t]
      exact m3.eq (s4 bm (Ne.symm bne))
    · have hi : (S.L ++ [some (List.replicate ((k : Int).toNat) 0)])[i]? = some (some w) := hi
      by_cases h2 : i < S.L.length
      · rw [List.getElem?_append_left h2] at hi
        obtain ⟨b, e1, e2⟩ := t.wd i w hi
        have hb := t.nF b (List.mem_of_getElem? e1)
        obtain ⟨es, ck, hgm⟩ := t.m.get
        refine ⟨b, by rw [List.getElem?_append_left (by rw [t.len]; exact h2)]; exact e1, ?_⟩
        rw [old b (t.lt b hb) (get_ne e2 t.row (by simp)) (get_ne e2 hgm (by simp))]
        exact e2
      · have hi2 : i = S.L.length := by
          have := (List.getElem?_eq_some_iff.1 hi).1
          simp at this; omega
        subst hi2
        simp at hi
        subst hi
        exact ⟨h.next, by rw [← t.len]; simp, by rw [new, ← ho]⟩
    · rw [List.nodup_append]
      refine ⟨t.nd, by simp, fun a ha b hb => ?_⟩
      simp only [List.mem_singleton] at hb
      have := t.lt a (t.nF a ha)
      omega
    · intro b hb
      rcases List.mem_append.1 hb with hb | hb
      · exact .inl (t.nF b hb)
      · exact .inr (by simpa using hb)
    · rcases hj with hj | hj
      · have := t.lt j hj; omega
      · omega
  · have hmk : S.make n = (S, 0, S.mayE n 0) := by unfold Sto.make; rw [if_neg he]
    rw [hmk]
    have e1 : (S.mayE n 0 != 0) = true := by simp [he]
    repeat' (first | simp only [evr, nextP_norm, evd, evq, beq_self_eq_true, cond_true, cond_false, reduceIte, Nat.reduceEqDiff, Nat.reduceAdd, Int.reduceBNe, Int.reduceBEq, Int.reduceLT, Int.reduceLE, Int.reduceEq, evh, evp, Nat.reduceLeDiff, Nat.reduceSub, Nat.reduceBEq, typs, hm, e1] | refine kCond2_by (fun hc => ?_) (fun hc => ?_) <;> try simp only [hc] | refine kPick_by (fun hc => ?_) (fun hc => ?_) <;> try simp only [hc] | refine kWant_by (fun hc => ?_) (fun hc => ?_) <;> try simp only [hc])
    exact ⟨F, ⟨bm, ws, t⟩, Nat.le_refl _, fun _ _ _ => rfl, fun _ hk => .inl hk⟩
theorem sSize_spec (t : StoAt h F S bs) (u : Int) : Meets kon 26 [ptrV bs, .int .i64 u] h fun v h' => v = .tuple #[.int .i64 (S.size u).1, .int .i64 (S.size u).2] ∧ h' = h := by
  obtain ⟨bm, ws, t⟩ := t
  have hg := (sGet_spec t u).call
  unfold getV ptrV at hg
  unfold ptrV
  refine Meets.mk rfl (by kernel_rfl) Tryd.func26 rfl (congrArg Array.toList Tryd.results26) ?_
  cases hr : S.room u with
  | none =>
    have e : roomV S ws u = none := by unfold roomV; rw [hr]; rfl
    have e2 : S.size u = (0, 4) := by unfold Sto.size; rw [hr]
    rw [e] at hg
    rw [e2]
    repeat' (first | simp only [evr, nextP_norm, evd, evq, beq_self_eq_true, cond_true, cond_false, reduceIte, Nat.reduceEqDiff, Nat.reduceAdd, Int.reduceBNe, Int.reduceBEq, Int.reduceLT, Int.reduceLE, Int.reduceEq, evh, evp, Nat.reduceLeDiff, Nat.reduceSub, Nat.reduceBEq, typs, hg, evLen_slice (P := kon.P) (t := 63) (e := 127) (by kernel_rfl)] | refine kCond2_by (fun hc => ?_) (fun hc => ?_) <;> try simp only [hc] | refine kPick_by (fun hc => ?_) (fun hc => ?_) <;> try simp only [hc] | refine kWant_by (fun hc => ?_) (fun hc => ?_) <;> try simp only [hc])
    rfl
  | some w =>
    obtain ⟨b, h1, h2, _⟩ := t.at hr
    have e2 : S.size u = ((w.length : Int), 0) := by unfold Sto.size; rw [hr]
    rw [h2] at hg
    unfold slW at hg
    rw [e2]
    repeat' (first | simp only [evr, nextP_norm, evd, evq, beq_self_eq_true, cond_true, cond_false, reduceIte, Nat.reduceEqDiff, Nat.reduceAdd, Int.reduceBNe, Int.reduceBEq, Int.reduceLT, Int.reduceLE, Int.reduceEq, evh, evp, Nat.reduceLeDiff, Nat.reduceSub, Nat.reduceBEq, typs, hg] | refine kCond2_by (fun hc => ?_) (fun hc => ?_) <;> try simp only [hc] | refine kPick_by (fun hc => ?_) (fun hc => ?_) <;> try simp only [hc] | refine kWant_by (fun hc => ?_) (fun hc => ?_) <;> try simp only [hc])
theorem StoB.setR (t : StoB h F S bs bm ws) {u : Int} {w : List Int} (hr : S.room u = some w) {o : Option (List Int)} {ws' : List Nat} {F' : Nat → Prop} {h' : Hp} (hF : ∀ j, F j → F' j) (hlt : ∀ j, F' j → j < h'.next)
    (ok : (S.setR u o).Ok) (hl : ws'.length = ws.length) (hw : ∀ i, i ≠ u.toNat - 1 → ws'[i]? = ws[i]?) (nd : ws'.Nodup) (nF : ∀ b ∈ ws', F' b)
    (row : h'.get bs = some (.row [.int .i64 S.quota, .int .i64 ((S.setR u o).used : Nat), .int .i64 S.L.length, .map (some bm)] 62 (.rw 0 [])))
    (m : MapIs keyI idV h' bm (roomV (S.setR u o) ws')) (old : ∀ (i b : Nat), i ≠ u.toNat - 1 → ws[i]? = some b → b ≠ bs → b ≠ bm → h'.get b = h.get b)
    (new : ∀ w', o = some w' → ∃ b : Nat, ws'[u.toNat - 1]? = some b ∧ h'.get b = some (.row (wdC w') 127 (.rw 0 []))) : StoB h' F' (S.setR u o) bs bm ws' := by
  obtain ⟨h1, h2, h3⟩ := Sto.room_some hr
  refine ⟨by rw [hl, t.len]; simp [Sto.setR], by rw [row]; simp [Sto.setR], m, fun i z hi => ?_, nd, nF, ⟨hF _ t.own.1, hF _ t.own.2⟩, hlt, ok⟩
  by_cases hii : i = u.toNat - 1
  · subst hii
    have hi : (S.L.set (u.toNat - 1) o)[u.toNat - 1]? = some (some z) := hi
    rw [List.getElem?_set_self h2] at hi
    exact new z (Option.some.inj hi)
  · have hi : (S.L.set (u.toNat - 1) o)[i]? = some (some z) := hi
    rw [List.getElem?_set_ne (Ne.symm hii)] at hi
    obtain ⟨b, e1, e2⟩ := t.wd i z hi
    obtain ⟨es, ck, hgm⟩ := t.m.get
    exact ⟨b, by rw [hw i hii]; exact e1, by rw [old i b hii e1 (get_ne e2 t.row (by simp)) (get_ne e2 hgm (by simp))]; exact e2⟩
end
end Go.Proofs.YtojcfpgapfceiaaDoor
namespace Go.Proofs.YtojcfpgapfceiaaDoor
open Go Go.Ev Go.Con
set_option linter.unusedSimpArgs false
set_option linter.unusedVariables false
set_option maxRecDepth 100000
def sdC (x : Sd) : List Value := [.int .i64 x.uid, .int .i64 x.size, .bool x.f.r, .bool x.f.w, .bool x.f.e, .int .i64 x.b.r1, .int .i64 x.b.r2, .int .i64 x.b.r3, .int .i64 x.b.g]
def sdV (x : Sd) : Value := .agg #[.int .i64 x.uid, .int .i64 x.size, .bool x.f.r, .bool x.f.w, .bool x.f.e, .int .i64 x.b.r1, .int .i64 x.b.r2, .int .i64 x.b.r3, .int .i64 x.b.g]
theorem inX (x : Sd) (e off : Int) (h : Hp) : Meets kon 30 [.agg #[.int .i64 x.uid, .int .i64 x.size, .bool x.f.r, .bool x.f.w, .bool x.f.e, .int .i64 x.b.r1, .int .i64 x.b.r2, .int .i64 x.b.r3, .int .i64 x.b.g], .int .i64 e, .int .i64 off] h fun v h' =>
    v = .int .i64 (inE x e off) ∧ h' = h.push (.row (sdC x) 41 (.rw 0 [])) := by
  unfold sdC
  refine Meets.mk rfl (by kernel_rfl) Tryd.func30 rfl (congrArg Array.toList Tryd.results30) ?_
  repeat' (first | simp only [evr, nextP_norm, evd, evq, beq_self_eq_true, cond_true, cond_false, reduceIte, Nat.reduceEqDiff, Nat.reduceAdd, Int.reduceBNe, Int.reduceBEq, Int.reduceLT, Int.reduceLE, Int.reduceEq, evh, evp, Nat.reduceLeDiff, Nat.reduceSub, Nat.reduceBEq, typs] | refine kCond2_by (fun hc => ?_) (fun hc => ?_) <;> try simp only [hc] | refine kPick_by (fun hc => ?_) (fun hc => ?_) <;> try simp only [hc] | refine kWant_by (fun hc => ?_) (fun hc => ?_) <;> try simp only [hc])
  all_goals (congr 1; unfold inE; simp_all; try omega)
theorem sdRead_spec (x : Sd) (r off : Int) (h : Hp) : Meets kon 14 [sdV x, .int .i64 r, .int .i64 off] h fun v h' => v = .int .i64 (x.read r off) ∧ Keep h h' := by
  have h1 := fun h => (readX x.b x.f r h).call
  have h2 := fun e h => (inX x e off h).call
  unfold obB obF at h1
  unfold sdC at h2
  unfold sdV Sd.read
  refine Meets.mk rfl (by kernel_rfl) Tryd.func14 rfl (congrArg Array.toList Tryd.results14) ?_
  repeat' (first | simp only [evr, nextP_norm, evd, evq, beq_self_eq_true, cond_true, cond_false, reduceIte, Nat.reduceEqDiff, Nat.reduceAdd, Int.reduceBNe, Int.reduceBEq, Int.reduceLT, Int.reduceLE, Int.reduceEq, evh, evp, Nat.reduceLeDiff, Nat.reduceSub, Nat.reduceBEq, typs] | refine kCond2_by (fun hc => ?_) (fun hc => ?_) <;> try simp only [hc] | refine kPick_by (fun hc => ?_) (fun hc => ?_) <;> try simp only [hc] | refine kWant_by (fun hc => ?_) (fun hc => ?_) <;> try simp only [hc])
  refine Wp_drawE [1, 0, 1, 0, 1, 0, 3, 0, 4, 0] (KR.mk (by kernel_rfl)) ?_
  repeat' (first | simp only [evr, nextP_norm, evd, evq, beq_self_eq_true, cond_true, cond_false, reduceIte, Nat.reduceEqDiff, Nat.reduceAdd, Int.reduceBNe, Int.reduceBEq, Int.reduceLT, Int.reduceLE, Int.reduceEq, evh, evp, Nat.reduceLeDiff, Nat.reduceSub, Nat.reduceBEq, typs, h1, h2] | refine kCond2_by (fun hc => ?_) (fun hc => ?_) <;> try simp only [hc] | refine kPick_by (fun hc => ?_) (fun hc => ?_) <;> try simp only [hc] | refine kWant_by (fun hc => ?_) (fun hc => ?_) <;> try simp only [hc])
  exact (((((Keep.push _ _).pushed).pushed).pushed).pushed).pushed
theorem sdWrite_spec (x : Sd) (r off : Int) (h : Hp) : Meets kon 16 [sdV x, .int .i64 r, .int .i64 off] h fun v h' => v = .int .i64 (x.write r off) ∧ Keep h h' := by
  have h1 := fun h => (writeX x.b x.f r h).call
  have h2 := fun e h => (inX x e off h).call
  unfold obB obF at h1
  unfold sdC at h2
  unfold sdV Sd.write
  refine Meets.mk rfl (by kernel_rfl) Tryd.func16 rfl (congrArg Array.toList Tryd.results16) ?_
  repeat' (first | simp only [evr, nextP_norm, evd, evq, beq_self_eq_true, cond_true, cond_false, reduceIte, Nat.reduceEqDiff, Nat.reduceAdd, Int.reduceBNe, Int.reduceBEq, Int.reduceLT, Int.reduceLE, Int.reduceEq, evh, evp, Nat.reduceLeDiff, Nat.reduceSub, Nat.reduceBEq, typs] | refine kCond2_by (fun hc => ?_) (fun hc => ?_) <;> try simp only [hc] | refine kPick_by (fun hc => ?_) (fun hc => ?_) <;> try simp only [hc] | refine kWant_by (fun hc => ?_) (fun hc => ?_) <;> try simp only [hc])
  refine Wp_drawE [1, 0, 1, 0, 1, 0, 3, 0, 4, 0] (KR.mk (by kernel_rfl)) ?_
  repeat' (first | simp only [evr, nextP_norm, evd, evq, beq_self_eq_true, cond_true, cond_false, reduceIte, Nat.reduceEqDiff, Nat.reduceAdd, Int.reduceBNe, Int.reduceBEq, Int.reduceLT, Int.reduceLE, Int.reduceEq, evh, evp, Nat.reduceLeDiff, Nat.reduceSub, Nat.reduceBEq, typs, h1, h2] | refine kCond2_by (fun hc => ?_) (fun hc => ?_) <;> try simp only [hc] | refine kPick_by (fun hc => ?_) (fun hc => ?_) <;> try simp only [hc] | refine kWant_by (fun hc => ?_) (fun hc => ?_) <;> try simp only [hc])
  exact (((((Keep.push _ _).pushed).pushed).pushed).pushed).pushed
theorem sdFetch_spec (x : Sd) (r off : Int) (h : Hp) : Meets kon 17 [sdV x, .int .i64 r, .int .i64 off] h fun v h' => v = .int .i64 (x.fetch r off) ∧ Keep h h' := by
  have h1 := fun h => (execX x.b x.f r h).call
  have h2 := fun e h => (inX x e off h).call
  unfold obB obF at h1
  unfold sdC at h2
  unfold sdV Sd.fetch
  refine Meets.mk rfl (by kernel_rfl) Tryd.func17 rfl (congrArg Array.toList Tryd.results17) ?_
  repeat' (first | simp only [evr, nextP_norm, evd, evq, beq_self_eq_true, cond_true, cond_false, reduceIte, Nat.reduceEqDiff, Nat.reduceAdd, Int.reduceBNe, Int.reduceBEq, Int.reduceLT, Int.reduceLE, Int.reduceEq, evh, evp, Nat.reduceLeDiff, Nat.reduceSub, Nat.reduceBEq, typs] | refine kCond2_by (fun hc => ?_) (fun hc => ?_) <;> try simp only [hc] | refine kPick_by (fun hc => ?_) (fun hc => ?_) <;> try simp only [hc] | refine kWant_by (fun hc => ?_) (fun hc => ?_) <;> try simp only [hc])
  refine Wp_drawE [1, 0, 1, 0, 1, 0, 3, 0, 4, 0] (KR.mk (by kernel_rfl)) ?_
  repeat' (first | simp only [evr, nextP_norm, evd, evq, beq_self_eq_true, cond_true, cond_false, reduceIte, Nat.reduceEqDiff, Nat.reduceAdd, Int.reduceBNe, Int.reduceBEq, Int.reduceLT, Int.reduceLE, Int.reduceEq, evh, evp, Nat.reduceLeDiff, Nat.reduceSub, Nat.reduceBEq, typs, h1, h2] | refine kCond2_by (fun hc => ?_) (fun hc => ?_) <;> try simp only [hc] | refine kPick_by (fun hc => ?_) (fun hc => ?_) <;> try simp only [hc] | refine kWant_by (fun hc => ?_) (fun hc => ?_) <;> try simp only [hc])
  exact (((((Keep.push _ _).pushed).pushed).pushed).pushed).pushed
theorem sdCall_spec (x : Sd) (r off : Int) (h : Hp) : Meets kon 12 [sdV x, .int .i64 r, .int .i64 off] h fun v h' => v = .tuple #[.int .i64 (x.call r off).1, .int .i64 (x.call r off).2] ∧ Keep h h' := by
  have h1 := fun h => (callX x.b x.f r off h).call
  have h2 := fun e h => (inX x e off h).call
  unfold obB obF at h1
  unfold sdC at h2
  unfold sdV Sd.call
  refine Meets.mk rfl (by kernel_rfl) Tryd.func12 rfl (congrArg Array.toList Tryd.results12) ?_
  by_cases he : inE x (callE x.b x.f r off).2 off = 0
  · have e1 : (inE x (callE x.b x.f r off).2 off != 0) = false := by simp [he]
    repeat' (first | simp only [evr, nextP_norm, evd, evq, beq_self_eq_true, cond_true, cond_false, reduceIte, Nat.reduceEqDiff, Nat.reduceAdd, Int.reduceBNe, Int.reduceBEq, Int.reduceLT, Int.reduceLE, Int.reduceEq, evh, evp, Nat.reduceLeDiff, Nat.reduceSub, Nat.reduceBEq, typs, h1, h2, e1] | refine kCond2_by (fun hc => ?_) (fun hc => ?_) <;> try simp only [hc] | refine kPick_by (fun hc => ?_) (fun hc => ?_) <;> try simp only [hc] | refine kWant_by (fun hc => ?_) (fun hc => ?_) <;> try simp only [hc])
    simp only [he, if_true, true_and]
    exact (((((Keep.push _ _).pushed).pushed).pushed).pushed).pushed
  · have e1 : (inE x (callE x.b x.f r off).2 off != 0) = true := by simp [he]
    repeat' (first | simp only [evr, nextP_norm, evd, evq, beq_self_eq_true, cond_true, cond_false, reduceIte, Nat.reduceEqDiff, Nat.reduceAdd, Int.reduceBNe, Int.reduceBEq, Int.reduceLT, Int.reduceLE, Int.reduceEq, evh, evp, Nat.reduceLeDiff, Nat.reduceSub, Nat.reduceBEq, typs, h1, h2, e1] | refine kCond2_by (fun hc => ?_) (fun hc => ?_) <;> try simp only [hc] | refine kPick_by (fun hc => ?_) (fun hc => ?_) <;> try simp only [hc] | refine kWant_by (fun hc => ?_) (fun hc => ?_) <;> try simp only [hc])
    simp only [he, if_false, true_and]
    exact (((((Keep.push _ _).pushed).pushed).pushed).pushed).pushed
end Go.Proofs.YtojcfpgapfceiaaDoor
namespace Go.Proofs.YtojcfpgapfceiaaDoor
open Go Go.Ev Go.Con
set_option linter.unusedSimpArgs false
set_option linter.unusedVariables false
set_option maxRecDepth 100000
section
variable {h : Hp} {F G : Nat → Prop} {T : Hi} {S : Sto} {bt bs : Nat}
theorem TreeAt.acl_le (t : TreeAt h F T bt) {u : Int} {b : Bn} (hb : T.byUID u = some b) : b.acl.length ≤ 1000000000 := by
  obtain ⟨bl, bd, bu, nb, t⟩ := t
  unfold Hi.byUID at hb
  cases hs : T.seg u with
  | none => rw [hs] at hb; cases hb
  | some i => rw [hs] at hb; cases hb; exact t.acl i
set_option maxHeartbeats 2000000 in
theorem sdOf_spec (t : TreeAt h F T bt) (s : StoAt h G S bs) (u : Int) (user : ByteArray) : Meets kon 9 [ptrV bt, ptrV bs, .int .i64 u, .string user] h fun v h' =>
    v = .tuple #[sdV (sdwOf T S u user).1, .int .i64 (sdwOf T S u user).2] ∧ Keep h h' := by
  unfold sdV
  refine Meets.mk rfl (by kernel_rfl) Tryd.func9 rfl (congrArg Array.toList Tryd.results9) ?_
  have ep : ∀ b, ptrV b = .pointer (some ⟨b, 0, none⟩) := fun _ => rfl
  repeat' (first | simp only [evr, nextP_norm, evd, evq, beq_self_eq_true, cond_true, cond_false, reduceIte, Nat.reduceEqDiff, Nat.reduceAdd, Int.reduceBNe, Int.reduceBEq, Int.reduceLT, Int.reduceLE, Int.reduceEq, evh, evp, Nat.reduceLeDiff, Nat.reduceSub, Nat.reduceBEq, typs, ep bt, ep bs] | refine kCond2_by (fun hc => ?_) (fun hc => ?_) <;> try simp only [hc] | refine kPick_by (fun hc => ?_) (fun hc => ?_) <;> try simp only [hc] | refine kWant_by (fun hc => ?_) (fun hc => ?_) <;> try simp only [hc])
  generalize hh : h.push _ = h1
  have z1 : h1.get h.next = some (.row [.int .i64 0, .int .i64 0, .bool false, .bool false, .bool false, .int .i64 0, .int .i64 0, .int .i64 0, .int .i64 0] 41 (.rw 0 [])) := by rw [← hh]; exact Hp.get_push_self _ _
  have k1 : Keep h h1 := by rw [← hh]; exact Keep.push _ _
  have n1 : h1.next = h.next + 1 := by rw [← hh]; rfl
  clear hh
  refine callP_meets (tByUID_spec (t.keeps k1) u) ?_
  rintro v h2 ⟨k2, hv⟩
  have n2 := k2.1
  cases hb : T.byUID u with
  | none =>
    rw [hb] at hv
    have hv : v = noneV := hv
    subst hv
    unfold noneV
    repeat' (first | simp only [evr, nextP_norm, evd, evq, beq_self_eq_true, cond_true, cond_false, reduceIte, Nat.reduceEqDiff, Nat.reduceAdd, Int.reduceBNe, Int.reduceBEq, Int.reduceLT, Int.reduceLE, Int.reduceEq, evh, evp, Nat.reduceLeDiff, Nat.reduceSub, Nat.reduceBEq, typs] | refine kCond2_by (fun hc => ?_) (fun hc => ?_) <;> try simp only [hc] | refine kPick_by (fun hc => ?_) (fun hc => ?_) <;> try simp only [hc] | refine kWant_by (fun hc => ?_) (fun hc => ?_) <;> try simp only [hc])
    generalize hh : Hp.set _ h2.next _ = h3
    have k3 : Keep h h3 := by rw [← hh]; exact ((k1.trans k2).pushed).set (by omega)
    have z3 : h3.get h.next = some (.row [.int .i64 0, .int .i64 0, .bool false, .bool false, .bool false, .int .i64 0, .int .i64 0, .int .i64 0, .int .i64 0] 41 (.rw 0 [])) := by rw [← hh, Hp.get_set_ne (by omega), Hp.get_push_lt (by omega), k2.2 _ (by omega)]; exact z1
    clear hh
    have hs := (sSize_spec (s.keeps k3) u).call
    unfold ptrV at hs
    repeat' (first | simp only [evr, nextP_norm, evd, evq, beq_self_eq_true, cond_true, cond_false, reduceIte, Nat.reduceEqDiff, Nat.reduceAdd, Int.reduceBNe, Int.reduceBEq, Int.reduceLT, Int.reduceLE, Int.reduceEq, evh, evp, Nat.reduceLeDiff, Nat.reduceSub, Nat.reduceBEq, typs, hs, z3] | refine kCond2_by (fun hc => ?_) (fun hc => ?_) <;> try simp only [hc] | refine kPick_by (fun hc => ?_) (fun hc => ?_) <;> try simp only [hc] | refine kWant_by (fun hc => ?_) (fun hc => ?_) <;> try simp only [hc])
    have : sdwOf T S u user = (noSd, 4) := by unfold sdwOf; rw [hb]
    rw [this]
    exact ⟨rfl, k3.set (Nat.le_refl _)⟩
  | some b =>
    rw [hb] at hv
    obtain ⟨sl, hv, hsl⟩ := hv
    subst hv
    have hsc := hsl.isCell
    have hcv := hsl.cellsV
    unfold outV bnC
    repeat' (first | simp only [evr, nextP_norm, evd, evq, beq_self_eq_true, cond_true, cond_false, reduceIte, Nat.reduceEqDiff, Nat.reduceAdd, Int.reduceBNe, Int.reduceBEq, Int.reduceLT, Int.reduceLE, Int.reduceEq, evh, evp, Nat.reduceLeDiff, Nat.reduceSub, Nat.reduceBEq, typs, hsc, hcv] | refine kCond2_by (fun hc => ?_) (fun hc => ?_) <;> try simp only [hc] | refine kPick_by (fun hc => ?_) (fun hc => ?_) <;> try simp only [hc] | refine kWant_by (fun hc => ?_) (fun hc => ?_) <;> try simp only [hc])
    generalize hh : Hp.set _ h2.next _ = h3
    have k3 : Keep h h3 := by rw [← hh]; exact ((k1.trans k2).pushed).set (by omega)
    have k23 : Keep h2 h3 := by rw [← hh]; exact (Keep.push _ _).set (Nat.le_refl _)
    have z3 : h3.get h.next = some (.row [.int .i64 0, .int .i64 0, .bool false, .bool false, .bool false, .int .i64 0, .int .i64 0, .int .i64 0, .int .i64 0] 41 (.rw 0 [])) := by rw [← hh, Hp.get_set_ne (by omega), Hp.get_push_lt (by omega), k2.2 _ (by omega)]; exact z1
    have b3 : h3.get h2.next = some (.row (bnC b sl) 37 (.rw 0 [])) := by rw [← hh]; exact Hp.get_set_self _ _ _
    have n3 : h3.next = h2.next + 1 := by rw [← hh]; rfl
    clear hh
    have hs := (sSize_spec (s.keeps k3) u).call
    unfold ptrV at hs
    cases hr : S.room u with
    | none =>
      have e1 : S.size u = (0, 4) := by unfold Sto.size; rw [hr]
      rw [e1] at hs
      repeat' (first | simp only [evr, nextP_norm, evd, evq, beq_self_eq_true, cond_true, cond_false, reduceIte, Nat.reduceEqDiff, Nat.reduceAdd, Int.reduceBNe, Int.reduceBEq, Int.reduceLT, Int.reduceLE, Int.reduceEq, evh, evp, Nat.reduceLeDiff, Nat.reduceSub, Nat.reduceBEq, typs, hs, z3] | refine kCond2_by (fun hc => ?_) (fun hc => ?_) <;> try simp only [hc] | refine kPick_by (fun hc => ?_) (fun hc => ?_) <;> try simp only [hc] | refine kWant_by (fun hc => ?_) (fun hc => ?_) <;> try simp only [hc])
      have : sdwOf T S u user = (noSd, 4) := by unfold sdwOf; rw [hb, hr]
      rw [this]
      exact ⟨rfl, k3.set (Nat.le_refl _)⟩
    | some w =>
      have e1 : S.size u = ((w.length : Int), 0) := by unfold Sto.size; rw [hr]
      rw [e1] at hs
      repeat' (first | simp only [evr, nextP_norm, evd, evq, beq_self_eq_true, cond_true, cond_false, reduceIte, Nat.reduceEqDiff, Nat.reduceAdd, Int.reduceBNe, Int.reduceBEq, Int.reduceLT, Int.reduceLE, Int.reduceEq, evh, evp, Nat.reduceLeDiff, Nat.reduceSub, Nat.reduceBEq, typs, hs] | refine kCond2_by (fun hc => ?_) (fun hc => ?_) <;> try simp only [hc] | refine kPick_by (fun hc => ?_) (fun hc => ?_) <;> try simp only [hc] | refine kWant_by (fun hc => ?_) (fun hc => ?_) <;> try simp only [hc])
      refine Wp_drawE [0, 0, 0, 1, 0, 3, 0, 1, 0, 2, 4] (KR.mk (by kernel_rfl)) ?_
      have y3 := rowOf_rw b3
      unfold bnC at y3
      repeat' (first | simp only [evr, nextP_norm, evd, evq, beq_self_eq_true, cond_true, cond_false, reduceIte, Nat.reduceEqDiff, Nat.reduceAdd, Int.reduceBNe, Int.reduceBEq, Int.reduceLT, Int.reduceLE, Int.reduceEq, evh, evp, Nat.reduceLeDiff, Nat.reduceSub, Nat.reduceBEq, typs, y3] | refine kCond2_by (fun hc => ?_) (fun hc => ?_) <;> try simp only [hc] | refine kPick_by (fun hc => ?_) (fun hc => ?_) <;> try simp only [hc] | refine kWant_by (fun hc => ?_) (fun hc => ?_) <;> try simp only [hc])
      refine callP_meets (aFind_spec (hsl.slAt.keep k23) (t.acl_le hb) user) ?_
      rintro _ h4 ⟨rfl, k4⟩
      have n4 := k4.1
      have z4 := (k4.2 _ (by omega)).trans z3
      have b4 := (k4.2 _ (by omega)).trans b3
      have y4 := rowOf_rw b4
      unfold bnC at y4
      unfold flV
      have hd : sdwOf T S u user = (⟨u, w.length, if b.object then noW (findF b.acl user) else findF b.acl user, b.b⟩, 0) := by unfold sdwOf; rw [hb, hr]
      rw [hd]
      have e8 : (h2.next = h4.next) = False := eq_false (by omega)
      have e9 : (h.next = h4.next) = False := eq_false (by omega)
      cases ho : b.object with
      | true =>
        rw [ho] at y3 y4
        repeat' (first | simp only [evr, nextP_norm, evd, evq, beq_self_eq_true, cond_true, cond_false, reduceIte, Nat.reduceEqDiff, Nat.reduceAdd, Int.reduceBNe, Int.reduceBEq, Int.reduceLT, Int.reduceLE, Int.reduceEq, evh, evp, Nat.reduceLeDiff, Nat.reduceSub, Nat.reduceBEq, typs, y3, y4, z4, e8, e9, if_false] | refine kCond2_by (fun hc => ?_) (fun hc => ?_) <;> try simp only [hc] | refine kPick_by (fun hc => ?_) (fun hc => ?_) <;> try simp only [hc] | refine kWant_by (fun hc => ?_) (fun hc => ?_) <;> try simp only [hc])
        refine ⟨rfl, ?_⟩
        have k := k3.trans k4
        exact ((((k.pushed).set (by omega)).set (by omega)).set (Nat.le_refl _))
      | false =>
        rw [ho] at y3 y4
        repeat' (first | simp only [evr, nextP_norm, evd, evq, beq_self_eq_true, cond_true, cond_false, reduceIte, Nat.reduceEqDiff, Nat.reduceAdd, Int.reduceBNe, Int.reduceBEq, Int.reduceLT, Int.reduceLE, Int.reduceEq, evh, evp, Nat.reduceLeDiff, Nat.reduceSub, Nat.reduceBEq, typs, y3, y4, z4, e8, e9, if_false] | refine kCond2_by (fun hc => ?_) (fun hc => ?_) <;> try simp only [hc] | refine kPick_by (fun hc => ?_) (fun hc => ?_) <;> try simp only [hc] | refine kWant_by (fun hc => ?_) (fun hc => ?_) <;> try simp only [hc])
        refine ⟨rfl, ?_⟩
        have k := k3.trans k4
        exact (((k.pushed).set (by omega)).set (Nat.le_refl _))
end
end Go.Proofs.YtojcfpgapfceiaaDoor
namespace Go.Proofs.YtojcfpgapfceiaaDoor
open Go Go.Ev Go.Con
set_option linter.unusedSimpArgs false
set_option linter.unusedVariables false
set_option maxRecDepth 100000
theorem TreeAt.lt {h : Hp} {F : Nat → Prop} {T : Hi} {bt : Nat} (t : TreeAt h F T bt) {k : Nat} (hk : F k) : k < h.next := by obtain ⟨_, _, _, _, t⟩ := t; exact t.lt k hk
theorem StoAt.lt {h : Hp} {F : Nat → Prop} {S : Sto} {bt : Nat} (t : StoAt h F S bt) {k : Nat} (hk : F k) : k < h.next := by obtain ⟨_, _, t⟩ := t; exact t.lt k hk
structure TS (n : Nat) (h : Hp) (F G : Nat → Prop) (T : Hi) (S : Sto) (bt bs : Nat) : Prop where
  t : TreeAt h F T bt
  s : StoAt h G S bs
  dj : ∀ k, F k → ¬ G k
  nF : ∀ k, F k → n ≤ k
  nG : ∀ k, G k → n ≤ k
  le : n ≤ h.next
section
variable {n : Nat} {h h' : Hp} {F F' G G' : Nat → Prop} {T T' : Hi} {S S' : Sto} {bt bs : Nat}
theorem TS.keeps (x : TS n h F G T S bt bs) (k : Keep h h') : TS n h' F G T S bt bs := ⟨x.t.keeps k, x.s.keeps k, x.dj, x.nF, x.nG, Nat.le_trans x.le k.1⟩
theorem TS.tree (x : TS n h F G T S bt bs) (u : Upd h F h' F') (t : TreeAt h' F' T' bt) : TS n h' F' G T' S bt bs ∧ ∀ k, k < n → h'.get k = h.get k := by
  have hs : ∀ k, G k → h'.get k = h.get k := fun k hk => u.same k (x.s.lt hk) fun hf => x.dj k hf hk
  refine ⟨⟨t, x.s.keep u.next hs, fun k hf hg => ?_, fun k hf => ?_, x.nG, Nat.le_trans x.le u.next⟩, fun k hk => u.same k (Nat.lt_of_lt_of_le hk x.le) fun hf => ?_⟩
  · rcases u.own k hf with h1 | h1
    · exact x.dj k h1 hg
    · have := x.s.lt hg; omega
  · rcases u.own k hf with h1 | h1
    · exact x.nF k h1
    · exact Nat.le_trans x.le h1
  · have := x.nF k hf; omega
theorem TS.sto (x : TS n h F G T S bt bs) (u : Upd h G h' G') (t : StoAt h' G' S' bs) : TS n h' F G' T S' bt bs ∧ ∀ k, k < n → h'.get k = h.get k := by
  have hs : ∀ k, F k → h'.get k = h.get k := fun k hk => u.same k (x.t.lt hk) fun hg => x.dj k hk hg
  refine ⟨⟨x.t.keep u.next hs, t, fun k hf hg => ?_, x.nF, fun k hg => ?_, Nat.le_trans x.le u.next⟩, fun k hk => u.same k (Nat.lt_of_lt_of_le hk x.le) fun hf => ?_⟩
  · rcases u.own k hg with h1 | h1
    · exact x.dj k hf h1
    · have := x.t.lt hf; omega
  · rcases u.own k hg with h1 | h1
    · exact x.nG k h1
    · exact Nat.le_trans x.le h1
  · have := x.nG k hf; omega
end
structure TL (L : Nat → Prop) (h : Hp) (F G : Nat → Prop) (T : Hi) (S : Sto) (bt bs : Nat) : Prop where
  t : TreeAt h F T bt
  s : StoAt h G S bs
  dj : ∀ k, F k → ¬ G k
  nF : ∀ k, L k → ¬ F k
  nG : ∀ k, L k → ¬ G k
  lt : ∀ k, L k → k < h.next
section
variable {n : Nat} {L : Nat → Prop} {h h' : Hp} {F F' G G' : Nat → Prop} {T T' : Hi} {S S' : Sto} {bt bs : Nat}
theorem TS.own (x : TS n h F G T S bt bs) : TL (fun k => k < n) h F G T S bt bs := ⟨x.t, x.s, x.dj, fun k hk hf => by have := x.nF k hf; omega, fun k hk hg => by have := x.nG k hg; omega, fun k hk => Nat.lt_of_lt_of_le hk x.le⟩
theorem TL.keeps (x : TL L h F G T S bt bs) (k : Keep h h') : TL L h' F G T S bt bs := ⟨x.t.keeps k, x.s.keeps k, x.dj, x.nF, x.nG, fun j hj => Nat.lt_of_lt_of_le (x.lt j hj) k.1⟩
theorem TL.more (x : TL L h F G T S bt bs) (k : Keep h h') {b : Nat} (h1 : h.next ≤ b) (h2 : b < h'.next) : TL (fun j => L j ∨ j = b) h' F G T S bt bs := by
  have y := x.keeps k
  refine ⟨y.t, y.s, y.dj, fun j hj hf => ?_, fun j hj hg => ?_, fun j hj => ?_⟩
  · rcases hj with hj | rfl
    · exact x.nF j hj hf
    · have := x.t.lt hf; omega
  · rcases hj with hj | rfl
    · exact x.nG j hj hg
    · have := x.s.lt hg; omega
  · rcases hj with hj | rfl
    · exact y.lt j hj
    · exact h2
theorem TL.tree (x : TL L h F G T S bt bs) (u : Upd h F h' F') (t : TreeAt h' F' T' bt) : TL L h' F' G T' S bt bs ∧ ∀ k, L k → h'.get k = h.get k := by
  have hs : ∀ k, G k → h'.get k = h.get k := fun k hk => u.same k (x.s.lt hk) fun hf => x.dj k hf hk
  refine ⟨⟨t, x.s.keep u.next hs, fun k hf hg => ?_, fun k hk hf => ?_, x.nG, fun j hj => Nat.lt_of_lt_of_le (x.lt j hj) u.next⟩, fun k hk => u.same k (x.lt k hk) (x.nF k hk)⟩
  · rcases u.own k hf with h1 | h1
    · exact x.dj k h1 hg
    · have := x.s.lt hg; omega
  · rcases u.own k hf with h1 | h1
    · exact x.nF k hk h1
    · have := x.lt k hk; omega
theorem TL.sto (x : TL L h F G T S bt bs) (u : Upd h G h' G') (t : StoAt h' G' S' bs) : TL L h' F G' T S' bt bs ∧ ∀ k, L k → h'.get k = h.get k := by
  have hs : ∀ k, F k → h'.get k = h.get k := fun k hk => u.same k (x.t.lt hk) fun hg => x.dj k hk hg
  refine ⟨⟨x.t.keep u.next hs, t, fun k hf hg => ?_, x.nF, fun k hk hg => ?_, fun j hj => Nat.lt_of_lt_of_le (x.lt j hj) u.next⟩, fun k hk => u.same k (x.lt k hk) (x.nG k hk)⟩
  · rcases u.own k hg with h1 | h1
    · exact x.dj k hf h1
    · have := x.t.lt hf; omega
  · rcases u.own k hg with h1 | h1
    · exact x.nG k hk h1
    · have := x.lt k hk; omega
end
def oneT (s : ByteArray) (c : Bn) : Hi := ⟨[c], [⟨0, 0, s⟩], [true]⟩
theorem one_add {s : ByteArray} {b : Bn} (hs : mayN s = true) (hk : b.kind = 1) (hu : 1 ≤ b.uid) (hl : listMay b.acl = true) (hb : bkMay b.b = true) : newHi.add 0 s b = (oneT s ⟨1, b.uid, 0, ByteArray.empty, b.object, b.acl, b.b⟩, 0, 0) := by
  have h1 : newHi.is 0 = true := rfl
  have h2 : (newHi.get 0 s) = none := rfl
  have h3 : newHi.cleanE b = 0 := by
    unfold Hi.cleanE
    rw [if_pos hk, if_neg (by
      rintro (h | h | h)
      · omega
      · rw [hl] at h; cases h
      · rw [hb] at h; cases h)]
    rfl
  have h4 : newHi.clean b = ⟨1, b.uid, 0, ByteArray.empty, b.object, b.acl, b.b⟩ := by unfold Hi.clean; rw [if_pos hk]
  unfold Hi.add Hi.why
  rw [h1, h2, h3]
  simp only [hs, h4, Bool.true_eq_false, if_false, Option.isSome_none, Bool.false_eq_true, if_true]
  unfold Hi.added
  rw [h4]
  simp [oneT, newHi, hk]
theorem one_uid {s : ByteArray} {c : Bn} (hk : c.kind = 1) : (oneT s c).byUID c.uid = some c := by
  unfold Hi.byUID Hi.seg oneT
  simp [Hi.isSeg, Hi.br, hk]
end Go.Proofs.YtojcfpgapfceiaaDoor
namespace Go.Ev
open Go
set_option linter.unusedSimpArgs false
set_option linter.unusedVariables false
section
variable {C : Ctx} {d : Option Nat} {ty : TypeId} {p : String} {af : Array Edge} {g : Option (Nat × Bool)} {fr : Fr} {h : Hp} {Q : Value → Hp → Prop}
def kFn (C : Ctx) (fr : Fr) (as0 : Array Operand) (h : Hp) (Q : Value → Hp → Prop) : Value → Prop
  | .func (.func g) first captured => onSome (evs fr as0.toList) fun vs => callP C g h Q (first.toList ++ vs ++ captured.toList)
  | _ => False
theorem kFn_eq {as0 : Array Operand} {f : FuncId} {first captured : Array Value} : kFn C fr as0 h Q (.func (.func f) first captured) = onSome (evs fr as0.toList) fun vs => callP C f h Q (first.toList ++ vs ++ captured.toList) := rfl
theorem P_callV {i : Nat} {as0 : Array Operand} {ts : Array TypeId} : WpP C ⟨d, .call ⟨.value (.tmp i), as0, ts⟩, ty, p, af, g⟩ fr h Q = onSome (fr.get i) (kFn C fr as0 h Q) := by
  have hk : kindOf C.P ⟨d, .call ⟨.value (.tmp i), as0, ts⟩, ty, p, af, g⟩ = .eff := rfl
  refine propext ⟨fun ⟨n, v, h', e, q⟩ => ?_, fun ⟨w, hw, k⟩ => ?_⟩
  · have e : evEff C.P (evCall C n) fr ⟨d, .call ⟨.value (.tmp i), as0, ts⟩, ty, p, af, g⟩ h = some (v, h') := e
    simp only [evEff, evEffCall, ev1] at e
    obtain ⟨w, hw, e⟩ := Option.bind_eq_some_iff.1 e
    refine ⟨w, hw, ?_⟩
    split at e
    · obtain ⟨vs, h1, h2⟩ := Option.bind_eq_some_iff.1 e
      exact ⟨vs, h1, v, h', ⟨n, h2⟩, q⟩
    · cases e
  · unfold kFn at k
    split at k
    · obtain ⟨vs, h1, v, h', ⟨n, r⟩, q⟩ := k
      refine ⟨n, v, h', ?_, q⟩
      unfold evOp
      rw [hk]
      simp only [evEff, evEffCall, ev1, hw, Option.bind_some, h1]
      exact r
    · exact k.elim
theorem P_makeFunc {f : FuncId} {first captured : Array Operand} : WpP C ⟨d, .makeFunc (.func f) first captured, ty, p, af, g⟩ fr h Q = onSome (evs fr first.toList) fun fs => onSome (evs fr captured.toList) fun cs => Q (.func (.func f) fs.toArray cs.toArray) h := by
  rw [propext (WpP_pure rfl)]
  show onSome _ _ = _
  simp only [evPure, onSome_bind, onSome_some]
end
end Go.Ev
namespace Go.Proofs.YtojcfpgapfceiaaDoor
open Go Go.Ev Go.Con
set_option linter.unusedSimpArgs false
set_option linter.unusedVariables false
set_option maxRecDepth 100000
theorem evBin_agg {P : Program} {t : TypeId} {xo yo : Operand} {xs ys : Array Value} {r : Bool} (hf : (flat (.agg xs) && flat (.agg ys)) = true) (hg : P.eqGuardType P.depth t = false) (he : prun P (Op.equal t (.agg xs) (.agg ys)) = some r) :
    evBin P .eql t xo yo (.agg xs) (.agg ys) = some (.bool r) ∧ evBin P .neq t xo yo (.agg xs) (.agg ys) = some (.bool !r) := by
  have h0 : prun P Go.program = some P := rfl
  have g : ∀ op, op = BinOp.eql ∨ op = BinOp.neq → prun P (eqGuard op t xo yo (.agg xs) (.agg ys)) = some () := fun op ho => by
    rcases ho with rfl | rfl
    all_goals
      unfold eqGuard
      simp only [Bool.not_true, Bool.false_eq_true, if_false]
      rw [prun_bind, h0, Option.bind_some, prun_bind, h0, Option.bind_some, hg]
      rfl
  constructor
  · unfold evBin
    rw [hf]
    show prunS P (do eqGuard .eql t xo yo (.agg xs) (.agg ys); binOp .eql t (.agg xs) (.agg ys)) = _
    unfold prunS
    rw [prun_bind, g _ (.inl rfl), Option.bind_some]
    show ((prun P ((do pure (Value.bool (← Op.equal t (.agg xs) (.agg ys)))) : Sem Value)).bind _) = _
    rw [prun_bind, he]; rfl
  · unfold evBin
    rw [hf]
    show prunS P (do eqGuard .neq t xo yo (.agg xs) (.agg ys); binOp .neq t (.agg xs) (.agg ys)) = _
    unfold prunS
    rw [prun_bind, g _ (.inr rfl), Option.bind_some]
    show ((prun P ((do pure (Value.bool (!(← Op.equal t (.agg xs) (.agg ys))))) : Sem Value)).bind _) = _
    rw [prun_bind, he]; rfl
theorem eq_fl (x y : Fl) : prun Tryd.prog (Op.equal 39 (.agg #[.bool x.r, .bool x.w, .bool x.e]) (.agg #[.bool y.r, .bool y.w, .bool y.e])) = some (decide (x = y)) := by
  have h1 := Tryd.underlying39
  have e1 := fun a b => eqIn_bool (P := Tryd.prog) (t := 4) Tryd.underlying4 9998 a b
  refine eqIn_struct h1 (by kernel_rfl) 9999 _ _ ?_
  have p1 : ∀ (u v w : Value), prun Tryd.prog (part 4 #[u, v, w] 0) = some u := by intro u v w; kernel_rfl
  have p2 : ∀ (u v w : Value), prun Tryd.prog (part 4 #[u, v, w] 1) = some v := by intro u v w; kernel_rfl
  have p3 : ∀ (u v w : Value), prun Tryd.prog (part 4 #[u, v, w] 2) = some w := by intro u v w; kernel_rfl
  simp only [fieldsEq, ne_eq, String.reduceEq, not_false_eq_true, if_true, p1, p2, p3, e1, Option.bind_some]
  obtain ⟨a, b, c⟩ := x
  obtain ⟨a', b', c'⟩ := y
  by_cases h : a = a' <;> by_cases h' : b = b' <;> by_cases h'' : c = c' <;> simp [h, h', h'']
theorem eq_bk (x y : Bk) : prun Tryd.prog (Op.equal 24 (.agg #[.int .i64 x.r1, .int .i64 x.r2, .int .i64 x.r3, .int .i64 x.g]) (.agg #[.int .i64 y.r1, .int .i64 y.r2, .int .i64 y.r3, .int .i64 y.g])) = some (decide (x = y)) := by
  have h1 := Tryd.underlying24
  have e1 := fun a b => eqIn_int (P := Tryd.prog) (t := 3) Tryd.underlying3 9998 a b
  refine eqIn_struct h1 (by kernel_rfl) 9999 _ _ ?_
  have p1 : ∀ (u v w z : Value), prun Tryd.prog (part 3 #[u, v, w, z] 0) = some u := by intro u v w z; kernel_rfl
  have p2 : ∀ (u v w z : Value), prun Tryd.prog (part 3 #[u, v, w, z] 1) = some v := by intro u v w z; kernel_rfl
  have p3 : ∀ (u v w z : Value), prun Tryd.prog (part 3 #[u, v, w, z] 2) = some w := by intro u v w z; kernel_rfl
  have p4 : ∀ (u v w z : Value), prun Tryd.prog (part 3 #[u, v, w, z] 3) = some z := by intro u v w z; kernel_rfl
  simp only [fieldsEq, ne_eq, String.reduceEq, not_false_eq_true, if_true, p1, p2, p3, p4, e1, Option.bind_some]
  obtain ⟨a, b, c, d⟩ := x
  obtain ⟨a', b', c', d'⟩ := y
  by_cases h : a = a' <;> by_cases h' : b = b' <;> by_cases h'' : c = c' <;> by_cases h3 : d = d' <;> simp [h, h', h'', h3]
theorem evFl (x y : Fl) (xo yo : Operand) : evBin kon.P .eql 39 xo yo (.agg #[.bool x.r, .bool x.w, .bool x.e]) (.agg #[.bool y.r, .bool y.w, .bool y.e]) = some (.bool (decide (x = y))) ∧
    evBin kon.P .neq 39 xo yo (.agg #[.bool x.r, .bool x.w, .bool x.e]) (.agg #[.bool y.r, .bool y.w, .bool y.e]) = some (.bool !decide (x = y)) := evBin_agg rfl (by kernel_rfl) (eq_fl x y)
theorem evBk (x y : Bk) (xo yo : Operand) : evBin kon.P .eql 24 xo yo (.agg #[.int .i64 x.r1, .int .i64 x.r2, .int .i64 x.r3, .int .i64 x.g]) (.agg #[.int .i64 y.r1, .int .i64 y.r2, .int .i64 y.r3, .int .i64 y.g]) = some (.bool (decide (x = y))) ∧
    evBin kon.P .neq 24 xo yo (.agg #[.int .i64 x.r1, .int .i64 x.r2, .int .i64 x.r3, .int .i64 x.g]) (.agg #[.int .i64 y.r1, .int .i64 y.r2, .int .i64 y.r3, .int .i64 y.g]) = some (.bool !decide (x = y)) := evBin_agg rfl (by kernel_rfl) (eq_bk x y)
end Go.Proofs.YtojcfpgapfceiaaDoor
namespace Go.Proofs.YtojcfpgapfceiaaDoor
open Go Go.Ev Go.RowKit Go.Con
set_option linter.unusedSimpArgs false
set_option linter.unusedVariables false
set_option maxRecDepth 1000000
theorem clos_spec {h : Hp} {p1 p2 : Nat} {off : Int} {c : UInt8} (r1 : rowOf h p1 = some [.int .i64 off]) (r2 : rowOf h p2 = some [.int .u8 c.toNat]) (e : Int) (x : Sd) (hx : x.size = ((c.toNat % 20 : Nat) : Int)) :
    Meets kon 11 [.int .i64 e, .pointer (some ⟨p1, 0, none⟩), .pointer (some ⟨p2, 0, none⟩)] h fun v h' => v = .int .i64 (inE x e off) ∧ h' = h := by
  have cv : ∀ n : Int, prunS kon.P (convert 5 3 (.int .u8 n)) = some (.int .i64 (IntKind.i64.wrap n)) := by intro n; kernel_rfl
  have wc : IntKind.i64.wrap (c.toNat : Int) = (c.toNat : Int) := wrap64 (by omega) (by have := c.toNat_lt; omega)
  have rr : Int.tmod (c.toNat : Int) 20 = ((c.toNat % 20 : Nat) : Int) := by rw [Int.tmod_eq_emod_of_nonneg (by omega)]; omega
  refine Meets.mk rfl (by kernel_rfl) Tryd.func11 rfl (congrArg Array.toList Tryd.results11) ?_
  by_cases h1 : e = 0
  · have f1 : (e == 0) = true := by simp [h1]
    by_cases h2 : off < 0
    · have f2 : decide (off < 0) = true := decide_eq_true h2
      repeat' (first | simp only [evr, nextP_norm, evd, evq, beq_self_eq_true, cond_true, cond_false, reduceIte, Nat.reduceEqDiff, Nat.reduceAdd, Int.reduceBNe, Int.reduceBEq, Int.reduceLT, Int.reduceLE, Int.reduceEq, evh, evp, Nat.reduceLeDiff, Nat.reduceSub, Nat.reduceBEq, typs, f1, r1, r2, f2] | refine kCond2_by (fun hc => ?_) (fun hc => ?_) <;> try simp only [hc] | refine kPick_by (fun hc => ?_) (fun hc => ?_) <;> try simp only [hc] | refine kWant_by (fun hc => ?_) (fun hc => ?_) <;> try simp only [hc])
      unfold inE; rw [if_pos ⟨h1, .inl h2⟩]
    · have f2 : decide (off < 0) = false := decide_eq_false h2
      by_cases h3 : ((c.toNat % 20 : Nat) : Int) ≤ off
      · have f3 : decide (((c.toNat % 20 : Nat) : Int) ≤ off) = true := decide_eq_true h3
        repeat' (first | simp only [evr, nextP_norm, evd, evq, beq_self_eq_true, cond_true, cond_false, reduceIte, Nat.reduceEqDiff, Nat.reduceAdd, Int.reduceBNe, Int.reduceBEq, Int.reduceLT, Int.reduceLE, Int.reduceEq, evh, evp, Nat.reduceLeDiff, Nat.reduceSub, Nat.reduceBEq, typs, f1, r1, r2, f2, cv, wc, evBin_rem (b := 20) (by decide), rr, f3] | refine kCond2_by (fun hc => ?_) (fun hc => ?_) <;> try simp only [hc] | refine kPick_by (fun hc => ?_) (fun hc => ?_) <;> try simp only [hc] | refine kWant_by (fun hc => ?_) (fun hc => ?_) <;> try simp only [hc])
        unfold inE; rw [if_pos ⟨h1, .inr (by omega)⟩]
      · have f3 : decide (((c.toNat % 20 : Nat) : Int) ≤ off) = false := decide_eq_false h3
        repeat' (first | simp only [evr, nextP_norm, evd, evq, beq_self_eq_true, cond_true, cond_false, reduceIte, Nat.reduceEqDiff, Nat.reduceAdd, Int.reduceBNe, Int.reduceBEq, Int.reduceLT, Int.reduceLE, Int.reduceEq, evh, evp, Nat.reduceLeDiff, Nat.reduceSub, Nat.reduceBEq, typs, f1, r1, r2, f2, cv, wc, evBin_rem (b := 20) (by decide), rr, f3] | refine kCond2_by (fun hc => ?_) (fun hc => ?_) <;> try simp only [hc] | refine kPick_by (fun hc => ?_) (fun hc => ?_) <;> try simp only [hc] | refine kWant_by (fun hc => ?_) (fun hc => ?_) <;> try simp only [hc])
        unfold inE; rw [if_neg (by omega)]
  · have f1 : (e == 0) = false := by simp [h1]
    repeat' (first | simp only [evr, nextP_norm, evd, evq, beq_self_eq_true, cond_true, cond_false, reduceIte, Nat.reduceEqDiff, Nat.reduceAdd, Int.reduceBNe, Int.reduceBEq, Int.reduceLT, Int.reduceLE, Int.reduceEq, evh, evp, Nat.reduceLeDiff, Nat.reduceSub, Nat.reduceBEq, typs, f1] | refine kCond2_by (fun hc => ?_) (fun hc => ?_) <;> try simp only [hc] | refine kPick_by (fun hc => ?_) (fun hc => ?_) <;> try simp only [hc] | refine kWant_by (fun hc => ?_) (fun hc => ?_) <;> try simp only [hc])
    unfold inE; rw [if_neg (by omega)]
noncomputable def findR (n : Nat) : Code → Option Code
  | .region id ops d => bif Nat.beq id n then some (.region id ops d) else none
  | .seq a b => match findR n a with
    | some c => some c
    | none => findR n b
  | .cond _ a b => match findR n a with
    | some c => some c
    | none => findR n b
  | .block _ a => findR n a
  | .loop a => findR n a
  | _ => none
set_option maxHeartbeats 8000000 in
theorem tail26 {fr : Fr} {h : Hp} {b : Bn} {sl : Value} (x : Sd) (f : Fl) (n1 n2 : Int) (c : UInt8) {p3 p4 p16 p17 p20 : Nat} {code : Code} (hxs : x.size = ((c.toNat % 20 : Nat) : Int)) (hxb : x.b = b.b) (hxf : x.f = f)
    (g3 : fr.get 3 = some (.pointer (some ⟨p3, 0, none⟩))) (g16 : fr.get 16 = some (.pointer (some ⟨p16, 0, none⟩))) (g17 : fr.get 17 = some (.pointer (some ⟨p17, 0, none⟩)))
    (g19 : fr.get 19 = some (.int .i64 n1)) (g20 : fr.get 20 = some (.pointer (some ⟨p20, 0, none⟩))) (g21 : fr.get 21 = some (.func (.func 11) #[] #[.pointer (some ⟨p20, 0, none⟩), .pointer (some ⟨p4, 0, none⟩)]))
    (g22 : fr.get 22 = some (.int .i64 (x.call n1 n2).1)) (g23 : fr.get 23 = some (.int .i64 (x.call n1 n2).2)) {r : Int} (g24 : fr.get 24 = some (.int .i64 r)) (g25 : fr.get 25 = some (.int .i64 (x.call n1 n2).2))
    (rb : rowOf h p3 = some [.int .i64 1, .int .i64 1, .int .i64 b.dir, .string b.link, .bool b.object, sl, .int .i64 b.b.r1, .int .i64 b.b.r2, .int .i64 b.b.r3, .int .i64 b.b.g])
    (rf : rowOf h p16 = some [.bool f.r, .bool f.w, .bool f.e]) (r20 : rowOf h p20 = some [.int .i64 n2])
    (rx : rowOf h p17 = some [.int .i64 x.uid, .int .i64 x.size, .bool x.f.r, .bool x.f.w, .bool x.f.e, .int .i64 x.b.r1, .int .i64 x.b.r2, .int .i64 x.b.r3, .int .i64 x.b.g])
    (rc : rowOf h p4 = some [.int .u8 c.toNat]) (hr : (x.call n1 n2).1 = r) (l3 : p3 < h.next) (l4 : p4 < h.next) (l16 : p16 < h.next) (l17 : p17 < h.next) (l20 : p20 < h.next) (hcode : (Tryd.f3.body.bind (findR 26)) = some code) :
    Wp kon code fr h (nextP kon Code.ret (endP kon [ResultVar.tmp 6] fun v _ => v = .bool true)) := by
  obtain rfl := Option.some.inj (hcode.symm.trans (rfl : _ = some _))
  refine Wp_drawE [1, 0, 1, 3, 0, 0, 1, 1, 0, 4, 4, 0, 0, 1, 0, 1, 3, 0, 0, 1, 1, 0, 4, 4, 0, 0, 0, 1, 0, 1, 3, 0, 0, 1, 1, 0, 4, 4, 0, 0, 0, 0, 0, 0, 0, 0, 0, 0, 0, 0, 0] (KR.mk (by kernel_rfl)) ?_
  have clo := fun (e : Int) {H : Hp} (r1 : rowOf H p20 = some [.int .i64 n2]) (r2 : rowOf H p4 = some [.int .u8 c.toNat]) => (clos_spec (h := H) (p1 := p20) (p2 := p4) (off := n2) (c := c) r1 r2 e x hxs).call
  repeat' (first | simp only [evr, nextP_norm, evd, evq, beq_self_eq_true, cond_true, cond_false, reduceIte, Nat.reduceEqDiff, Nat.reduceAdd, Int.reduceBNe, Int.reduceBEq, Int.reduceLT, Int.reduceLE, Int.reduceEq, evh, evp, Nat.reduceLeDiff, Nat.reduceSub, Nat.reduceBEq, typs, g3, g16, g17, g19, g20, g21, rx, r20] | refine kCond2_by (fun hc => ?_) (fun hc => ?_) <;> try simp only [hc] | refine kPick_by (fun hc => ?_) (fun hc => ?_) <;> try simp only [hc] | refine kWant_by (fun hc => ?_) (fun hc => ?_) <;> try simp only [hc])
  have q := r20
  have s2 := sdRead_spec x n1 n2 h
  unfold sdV at s2
  refine callP_meets s2 ?_
  rintro _ h1 ⟨rfl, k1⟩
  have rx1 := (k1.row (by omega)).trans rx
  have rf1 := (k1.row (by omega)).trans rf
  have rb1 := (k1.row (by omega)).trans rb
  have q1 := (k1.row (by omega)).trans q
  have rc1 := (k1.row (by omega)).trans rc
  have n1' := k1.1
  repeat' (first | simp only [evr, nextP_norm, evd, evq, beq_self_eq_true, cond_true, cond_false, reduceIte, Nat.reduceEqDiff, Nat.reduceAdd, Int.reduceBNe, Int.reduceBEq, Int.reduceLT, Int.reduceLE, Int.reduceEq, evh, evp, Nat.reduceLeDiff, Nat.reduceSub, Nat.reduceBEq, typs, g3, g16, g17, g19, g20, g21, rx, rf, rb, q, rc, P_callV, kFn_eq, rx1, rf1, rb1, q1] | refine kCond2_by (fun hc => ?_) (fun hc => ?_) <;> try simp only [hc] | refine kPick_by (fun hc => ?_) (fun hc => ?_) <;> try simp only [hc] | refine kWant_by (fun hc => ?_) (fun hc => ?_) <;> try simp only [hc])
  refine callP_meets (rDoX 2 b.b f n1 h1) ?_
  rintro _ h2 ⟨rfl, hq⟩
  have k2 : Keep h1 h2 := by rw [hq]; exact ((Keep.push _ _).pushed).pushed
  clear hq
  have rx2 := (k2.row (by omega)).trans rx1
  have rf2 := (k2.row (by omega)).trans rf1
  have rb2 := (k2.row (by omega)).trans rb1
  have q2 := (k2.row (by omega)).trans q1
  have rc2 := (k2.row (by omega)).trans rc1
  have n2' := k2.1
  have c2 := fun e => clo e q2 rc2
  have v2 : inE x (doE 2 b.b f n1) n2 = x.read n1 n2 := by unfold Sd.read; rw [hxb, hxf]; rfl
  repeat' (first | simp only [evr, nextP_norm, evd, evq, beq_self_eq_true, cond_true, cond_false, reduceIte, Nat.reduceEqDiff, Nat.reduceAdd, Int.reduceBNe, Int.reduceBEq, Int.reduceLT, Int.reduceLE, Int.reduceEq, evh, evp, Nat.reduceLeDiff, Nat.reduceSub, Nat.reduceBEq, typs, g3, g16, g17, g19, g20, g21, rx, rf, rb, q, rc, P_callV, kFn_eq, rx1, rf1, rb1, q1, rx2, rf2, rb2, q2, c2, v2] | refine kCond2_by (fun hc => ?_) (fun hc => ?_) <;> try simp only [hc] | refine kPick_by (fun hc => ?_) (fun hc => ?_) <;> try simp only [hc] | refine kWant_by (fun hc => ?_) (fun hc => ?_) <;> try simp only [hc])
  have s3 := sdWrite_spec x n1 n2 h2
  unfold sdV at s3
  refine callP_meets s3 ?_
  rintro _ h3 ⟨rfl, k3⟩
  have rx3 := (k3.row (by omega)).trans rx2
  have rf3 := (k3.row (by omega)).trans rf2
  have rb3 := (k3.row (by omega)).trans rb2
  have q3 := (k3.row (by omega)).trans q2
  have rc3 := (k3.row (by omega)).trans rc2
  have n3' := k3.1
  repeat' (first | simp only [evr, nextP_norm, evd, evq, beq_self_eq_true, cond_true, cond_false, reduceIte, Nat.reduceEqDiff, Nat.reduceAdd, Int.reduceBNe, Int.reduceBEq, Int.reduceLT, Int.reduceLE, Int.reduceEq, evh, evp, Nat.reduceLeDiff, Nat.reduceSub, Nat.reduceBEq, typs, g3, g16, g17, g19, g20, g21, rx, rf, rb, q, rc, P_callV, kFn_eq, rx1, rf1, rb1, q1, rx2, rf2, rb2, q2, c2, v2, rx3, rf3, rb3, q3] | refine kCond2_by (fun hc => ?_) (fun hc => ?_) <;> try simp only [hc] | refine kPick_by (fun hc => ?_) (fun hc => ?_) <;> try simp only [hc] | refine kWant_by (fun hc => ?_) (fun hc => ?_) <;> try simp only [hc])
  refine callP_meets (rDoX 3 b.b f n1 h3) ?_
  rintro _ h4 ⟨rfl, hq⟩
  have k4 : Keep h3 h4 := by rw [hq]; exact ((Keep.push _ _).pushed).pushed
  clear hq
  have rx4 := (k4.row (by omega)).trans rx3
  have rf4 := (k4.row (by omega)).trans rf3
  have rb4 := (k4.row (by omega)).trans rb3
  have q4 := (k4.row (by omega)).trans q3
  have rc4 := (k4.row (by omega)).trans rc3
  have n4' := k4.1
  have c4 := fun e => clo e q4 rc4
  have v4 : inE x (doE 3 b.b f n1) n2 = x.write n1 n2 := by unfold Sd.write; rw [hxb, hxf]; rfl
  repeat' (first | simp only [evr, nextP_norm, evd, evq, beq_self_eq_true, cond_true, cond_false, reduceIte, Nat.reduceEqDiff, Nat.reduceAdd, Int.reduceBNe, Int.reduceBEq, Int.reduceLT, Int.reduceLE, Int.reduceEq, evh, evp, Nat.reduceLeDiff, Nat.reduceSub, Nat.reduceBEq, typs, g3, g16, g17, g19, g20, g21, rx, rf, rb, q, rc, P_callV, kFn_eq, rx1, rf1, rb1, q1, rx2, rf2, rb2, q2, c2, v2, rx3, rf3, rb3, q3, rx4, rf4, rb4, q4, c4, v4] | refine kCond2_by (fun hc => ?_) (fun hc => ?_) <;> try simp only [hc] | refine kPick_by (fun hc => ?_) (fun hc => ?_) <;> try simp only [hc] | refine kWant_by (fun hc => ?_) (fun hc => ?_) <;> try simp only [hc])
  have s1 := sdFetch_spec x n1 n2 h4
  unfold sdV at s1
  refine callP_meets s1 ?_
  rintro _ h5 ⟨rfl, k5⟩
  have rx5 := (k5.row (by omega)).trans rx4
  have rf5 := (k5.row (by omega)).trans rf4
  have rb5 := (k5.row (by omega)).trans rb4
  have q5 := (k5.row (by omega)).trans q4
  have rc5 := (k5.row (by omega)).trans rc4
  have n5' := k5.1
  repeat' (first | simp only [evr, nextP_norm, evd, evq, beq_self_eq_true, cond_true, cond_false, reduceIte, Nat.reduceEqDiff, Nat.reduceAdd, Int.reduceBNe, Int.reduceBEq, Int.reduceLT, Int.reduceLE, Int.reduceEq, evh, evp, Nat.reduceLeDiff, Nat.reduceSub, Nat.reduceBEq, typs, g3, g16, g17, g19, g20, g21, rx, rf, rb, q, rc, P_callV, kFn_eq, rx1, rf1, rb1, q1, rx2, rf2, rb2, q2, c2, v2, rx3, rf3, rb3, q3, rx4, rf4, rb4, q4, c4, v4, rx5, rf5, rb5, q5] | refine kCond2_by (fun hc => ?_) (fun hc => ?_) <;> try simp only [hc] | refine kPick_by (fun hc => ?_) (fun hc => ?_) <;> try simp only [hc] | refine kWant_by (fun hc => ?_) (fun hc => ?_) <;> try simp only [hc])
  refine callP_meets (rDoX 1 b.b f n1 h5) ?_
  rintro _ h6 ⟨rfl, hq⟩
  have k6 : Keep h5 h6 := by rw [hq]; exact ((Keep.push _ _).pushed).pushed
  clear hq
  have rx6 := (k6.row (by omega)).trans rx5
  have rf6 := (k6.row (by omega)).trans rf5
  have rb6 := (k6.row (by omega)).trans rb5
  have q6 := (k6.row (by omega)).trans q5
  have rc6 := (k6.row (by omega)).trans rc5
  have n6' := k6.1
  have c6 := fun e => clo e q6 rc6
  have v6 : inE x (doE 1 b.b f n1) n2 = x.fetch n1 n2 := by unfold Sd.fetch; rw [hxb, hxf]; rfl
  repeat' (first | simp only [evr, nextP_norm, evd, evq, beq_self_eq_true, cond_true, cond_false, reduceIte, Nat.reduceEqDiff, Nat.reduceAdd, Int.reduceBNe, Int.reduceBEq, Int.reduceLT, Int.reduceLE, Int.reduceEq, evh, evp, Nat.reduceLeDiff, Nat.reduceSub, Nat.reduceBEq, typs, g3, g16, g17, g19, g20, g21, rx, rf, rb, q, rc, P_callV, kFn_eq, rx1, rf1, rb1, q1, rx2, rf2, rb2, q2, c2, v2, rx3, rf3, rb3, q3, rx4, rf4, rb4, q4, c4, v4, rx5, rf5, rb5, q5, rx6, rf6, rb6, q6, c6, v6, g22, g23, g24, g25, hr] | refine kCond2_by (fun hc => ?_) (fun hc => ?_) <;> try simp only [hc] | refine kPick_by (fun hc => ?_) (fun hc => ?_) <;> try simp only [hc] | refine kWant_by (fun hc => ?_) (fun hc => ?_) <;> try simp only [hc])
end Go.Proofs.YtojcfpgapfceiaaDoor
namespace Go.Proofs
open Go.Shelf
def Tryd.lays213_ren : Go.Shelf.Ren := ⟨fun | 213 => 53 | 265 => 57 | n => n, fun | 9 => 9 | 3 => 3 | n => n, fun | n => n⟩
def Tryd.lays106_ren : Go.Shelf.Ren := ⟨fun | 106 => 50 | 213 => 53 | 265 => 57 | n => n, fun | 9 => 9 | 3 => 3 | n => n, fun | n => n⟩
theorem Tryd.lays106 : Go.Proofs.Lays.n106 Tryd.prog Tryd.lays106_ren := {
  mixed := by kernel_rfl
  f106 := Tryd.func50.trans (congrArg some (by kernel_rfl))
  f213 := Tryd.func53.trans (congrArg some (by kernel_rfl))
  f265 := Tryd.func57.trans (congrArg some (by kernel_rfl))
  t3 := Tryd.underlying3
  a3 := Tryd.isAgg3
  z3 := Tryd.sizeOf3
  v3 := Tryd.zeroValue3
  t9 := Tryd.underlying9
  a9 := Tryd.isAgg9
  z9 := Tryd.sizeOf9
  v9 := Tryd.zeroValue9 }
open Go.RowKit in
theorem Tryd.strings_Compare (a b : ByteArray) (w : World) :
    Calls Tryd.prog 50 #[.string a, .string b] w fun e w' => e = .returned (.int .i64 (Lib.compareBytes a.data.toList b.data.toList)) ∧ w' = w := Any.strings_Compare Tryd.lays106 a b w
def Tryd.lays221_ren : Go.Shelf.Ren := ⟨fun | 221 => 52 | 268 => 54 | 138 => 55 | 143 => 56 | 195 => 58 | 197 => 59 | 218 => 60 | 219 => 61 | 260 => 62 | 217 => 63 | 225 => 64 | 224 => 65 | 267 => 66 | 266 => 67 | 314 => 68 | n => n, fun | 9 => 9 | 3 => 3 | 31 => 44 | 4 => 4 | 0 => 0 | 105 => 100 | 21 => 21 | 5 => 5 | 46 => 103 | 119 => 104 | 139 => 107 | 138 => 106 | 146 => 109 | 51 => 108 | n => n, fun | 1 => 0 | 3 => 1 | 4 => 2 | n => n⟩
def Tryd.lays146_ren : Go.Shelf.Ren := ⟨fun | 146 => 47 | 221 => 52 | 268 => 54 | 138 => 55 | 143 => 56 | 195 => 58 | 197 => 59 | 218 => 60 | 219 => 61 | 260 => 62 | 217 => 63 | 225 => 64 | 224 => 65 | 267 => 66 | 266 => 67 | 314 => 68 | n => n, fun | 9 => 9 | 31 => 44 | 3 => 3 | 4 => 4 | 0 => 0 | 105 => 100 | 21 => 21 | 5 => 5 | 46 => 103 | 119 => 104 | 139 => 107 | 138 => 106 | 146 => 109 | 51 => 108 | n => n, fun | 1 => 0 | 3 => 1 | 4 => 2 | n => n⟩
theorem Tryd.lays146 : Go.Proofs.Lays.n146 Tryd.prog Tryd.lays146_ren := {
  mixed := by kernel_rfl
  f138 := Tryd.func55.trans (congrArg some (by kernel_rfl))
  f143 := Tryd.func56.trans (congrArg some (by kernel_rfl))
  f146 := Tryd.func47.trans (congrArg some (by kernel_rfl))
  f195 := Tryd.func58.trans (congrArg some (by kernel_rfl))
  f197 := Tryd.func59.trans (congrArg some (by kernel_rfl))
  f217 := Tryd.func63.trans (congrArg some (by kernel_rfl))
  f218 := Tryd.func60.trans (congrArg some (by kernel_rfl))
  f219 := Tryd.func61.trans (congrArg some (by kernel_rfl))
  f221 := Tryd.func52.trans (congrArg some (by kernel_rfl))
  f224 := Tryd.func65.trans (congrArg some (by kernel_rfl))
  f225 := Tryd.func64.trans (congrArg some (by kernel_rfl))
  f260 := Tryd.func62.trans (congrArg some (by kernel_rfl))
  f266 := Tryd.func67.trans (congrArg some (by kernel_rfl))
  f267 := Tryd.func66.trans (congrArg some (by kernel_rfl))
  f268 := Tryd.func54.trans (congrArg some (by kernel_rfl))
  f314 := Tryd.func68.trans (congrArg some (by kernel_rfl))
  t0 := Tryd.underlying0
  a0 := Tryd.isAgg0
  z0 := Tryd.sizeOf0
  v0 := Tryd.zeroValue0
  t3 := Tryd.underlying3
  a3 := Tryd.isAgg3
  z3 := Tryd.sizeOf3
  v3 := Tryd.zeroValue3
  t4 := Tryd.underlying4
  a4 := Tryd.isAgg4
  z4 := Tryd.sizeOf4
  v4 := Tryd.zeroValue4
  t5 := Tryd.underlying5
  a5 := Tryd.isAgg5
  z5 := Tryd.sizeOf5
  v5 := Tryd.zeroValue5
  t9 := Tryd.underlying9
  a9 := Tryd.isAgg9
  z9 := Tryd.sizeOf9
  v9 := Tryd.zeroValue9
  t21 := Tryd.underlying21
  a21 := Tryd.isAgg21
  z21 := Tryd.sizeOf21
  v21 := Tryd.zeroValue21
  t31 := Tryd.underlying44
  a31 := Tryd.isAgg44
  z31 := Tryd.sizeOf44
  v31 := Tryd.zeroValue44
  t46 := Tryd.underlying103
  a46 := Tryd.isAgg103
  z46 := Tryd.sizeOf103
  v46 := Tryd.zeroValue103
  t51 := Tryd.underlying108
  a51 := Tryd.isAgg108
  z51 := Tryd.sizeOf108
  v51 := Tryd.zeroValue108
  t105 := Tryd.underlying100
  a105 := Tryd.isAgg100
  z105 := Tryd.sizeOf100
  v105 := Tryd.zeroValue100
  t119 := Tryd.underlying104
  a119 := Tryd.isAgg104
  z119 := Tryd.sizeOf104
  t138 := Tryd.underlying106
  a138 := Tryd.isAgg106
  z138 := Tryd.sizeOf106
  v138 := Tryd.zeroValue106
  t139 := Tryd.underlying107
  a139 := Tryd.isAgg107
  z139 := Tryd.sizeOf107
  v139 := Tryd.zeroValue107
  t146 := Tryd.underlying109
  a146 := Tryd.isAgg109
  z146 := Tryd.sizeOf109
  v146 := Tryd.zeroValue109
  g1 := by kernel_rfl
  g3 := by kernel_rfl
  g4 := by kernel_rfl }
open Go.RowKit Go.Lib in
theorem Tryd.strings_Split (s sep : ByteArray) (m : Int) (w : World) (hs : s.size < 4294967281) (hm : w.cell? ⟨0, 0, none⟩ = some (.int .i64 m)) (h1 : 1 ≤ sep.size) :
    Calls Tryd.prog 47 #[.string s, .string sep] w fun e w' =>
      e = .returned (.slice (some ⟨w.heap.size, 0, none⟩) (Lib.countB s sep + 1) (Lib.countB s sep + 1)) ∧ w' = w.alloc (.cells ((Lib.splitB sep 0 (Lib.countB s sep) s).map Value.string).toArray 9) := Any.strings_Split Tryd.lays146 (by kernel_rfl) s sep m w hs hm h1
end Go.Proofs
namespace Go.Proofs.YtojcfpgapfceiaaDoor
open Go Go.Ev Go.RowKit
set_option linter.unusedSimpArgs false
set_option linter.unusedVariables false
set_option maxRecDepth 100000
theorem mask_all : ((List.range 69).all fun f => !(mask.testBit f) || okF Tryd.prog f) = true := by kernel_rfl
theorem ctx_mix : ctx.P.follows .mixedOrders = true := by kernel_rfl
theorem good1 : GoodF Tryd.prog 47 := ⟨Tryd.f47, Tryd.func47, by kernel_rfl, by kernel_rfl⟩
theorem good3 : GoodF Tryd.prog 50 := ⟨Tryd.f50, Tryd.func50, by kernel_rfl, by kernel_rfl⟩
theorem sumAt_mem {f : Nat} {s : Sum} : ∀ {l : List (Nat × Sum)}, sumAt f l = some s → (f, s) ∈ l
  | (g, t) :: l, h => by
    unfold sumAt at h
    cases hb : Nat.beq f g with
    | true =>
      rw [hb] at h
      simp only [cond_true, Option.some.injEq] at h
      obtain rfl := Nat.eq_of_beq_eq_true hb
      rw [h]; exact List.mem_cons_self
    | false => rw [hb] at h; exact List.mem_cons_of_mem _ (sumAt_mem h)
theorem sums_good {I : Inv} (hI : ∀ m h w, I m h w → ∃ mx, w.cell? ⟨0, 0, none⟩ = some (.int .i64 mx)) : ∀ p ∈ sums, GoodF Tryd.prog p.1 ∧ SumOK Tryd.prog I p.1 p.2 := by
  intro p hp
  rcases List.mem_cons.1 hp with rfl | hp
  · exact ⟨good1, sumSplit_ok hI Tryd.strings_Split⟩
  rcases List.mem_cons.1 hp with rfl | hp
  · exact ⟨good3, sumCmp_ok (I := I) Tryd.strings_Compare⟩
  cases hp
theorem ctx_ok {I : Inv} (hI : ∀ m h w, I m h w → ∃ mx, w.cell? ⟨0, 0, none⟩ = some (.int .i64 mx)) : CtxOK ctx I (regOk ctx.P) := by
  refine ⟨fun f hf => mask_ok (k := 69) (of_decide_eq_true (by kernel_rfl)) mask_all f hf, fun f s hs args h v h' e => ?_⟩
  obtain ⟨h1, h2⟩ := sums_good hI (f, s) (sumAt_mem hs)
  exact ⟨h1, h2 args h v h' e⟩
theorem maxLen {w : World} (h : w.ShapedOpen Tryd.prog) : ∃ m, w.cell? ⟨0, 0, none⟩ = some (.int .i64 m) :=
  Go.Proofs.cell_of_shapedOpen_int (zero := #[.int .i64 0]) (t := 3) h (of_decide_eq_true (by kernel_rfl)) (by kernel_rfl) rfl (by kernel_rfl) (by kernel_rfl) Tryd.underlying3
end Go.Proofs.YtojcfpgapfceiaaDoor
namespace Go.Proofs.YtojcfpgapfceiaaDoor
open Go Go.Ev Go.RowKit
set_option linter.unusedSimpArgs false
set_option linter.unusedVariables false
set_option maxRecDepth 100000
def sumTrue : Sum := fun _ h => some (.bool true, h)
theorem sumTrue_ok {I : Inv} {f : FuncId} (hI : ∀ m h w, I m h w → ∃ mx, w.cell? ⟨0, 0, none⟩ = some (.int .i64 mx)) {n : Nat} (e : (evCall ctx n f [] h0).map (·.1) = some (.bool true)) : ∀ h v h', sumTrue [] h = some (v, h') → ∀ m w args', Rep ctx.P m h w → I m h w → VL m [] args' →
    Calls ctx.P f args'.toArray w fun e w' => ∃ v' m', e = .returned v' ∧ Rep ctx.P m' h' w' ∧ Step m h w m' h' w' ∧ VRel m' v v' := by
  intro h v h' hs m w args' r hi hv
  cases hv
  cases hs
  have hC : CtxOK ctx (From m0 h0 w) (regOk ctx.P) := ctx_ok fun _ _ _ i => (hI m h w hi).imp fun _ e => i.cell0 e
  refine (closed_bool hC ctx_mix e).mono fun e w' he => ?_
  obtain ⟨rfl, hb⟩ := he
  obtain ⟨h1, h2⟩ := r.below hb
  exact ⟨_, m, rfl, h1, h2, .bool _⟩
theorem awake_val : (awakes.all fun f => match ((evCall ctx 200 f [] h0).map (·.1) : Option Value) with
  | some (.bool b) => b
  | _ => false) = true := by kernel_rfl
theorem awake_good : (awakes.all fun f => match Tryd.prog.funcs[f]? with
  | some fn => fn.body.isSome && !(fn.name == "runtime.NumGoroutine")
  | none => false) = true := by kernel_rfl
theorem kon_ok {I : Inv} (hI : ∀ m h w, I m h w → ∃ mx, w.cell? ⟨0, 0, none⟩ = some (.int .i64 mx)) : CtxOK kon I (regOk kon.P) := by
  have base := ctx_ok hI
  refine ⟨base.1, fun f s hs args h v h' e => ?_⟩
  simp only [kon] at hs
  cases hf : awakes.contains f with
  | false => rw [hf] at hs; exact base.2 f s hs args h v h' e
  | true =>
    rw [hf] at hs
    simp only [cond_true, Option.some.injEq] at hs
    subst hs
    have hm : f ∈ awakes := by simpa using hf
    have h1 := List.all_eq_true.1 awake_val f hm
    have h2 := List.all_eq_true.1 awake_good f hm
    unfold sumAwake at e
    split at e
    · refine ⟨?_, fun m w args' r hi hv => ?_⟩
      · split at h2
        · rename_i fn hfn
          simp only [Bool.and_eq_true, Bool.not_eq_true'] at h2
          exact ⟨fn, hfn, h2.2, by have := h2.1; cases hb : fn.body <;> simp_all⟩
        · cases h2
      · refine sumTrue_ok hI (n := 200) ?_ h v h' (by simpa [sumTrue] using e) m w args' r hi hv
        split at h1
        · rename_i b hb
          rw [hb, h1]
        · cases h1
    · cases e
theorem kon_mix : kon.P.follows .mixedOrders = true := ctx_mix
theorem kon_from {w0 : World} (h : w0.ShapedOpen Tryd.prog) : CtxOK kon (From (mIn w0) (hIn w0) w0) (regOk kon.P) :=
  kon_ok fun _ _ _ i => (maxLen h).imp fun _ e => i.cellIn e
end Go.Proofs.YtojcfpgapfceiaaDoor
namespace Go.Proofs.YtojcfpgapfceiaaDoor
open Go Go.Ev Go.RowKit
set_option linter.unusedSimpArgs false
set_option linter.unusedVariables false
set_option maxRecDepth 1000000
theorem okAgg {P : Program} {W : World} {r : Reach} {base : Nat} {t : TypeId} {v : Value} {fs : Array Field} (ht : P.underlying t = some (.struct fs)) (h : Value.okWide P W r base t v) : ∃ cs, v = .agg cs := by
  unfold Value.okWide at h; rw [ht] at h; obtain ⟨cs, h, _⟩ := h; exact ⟨cs, h⟩
theorem okArr {P : Program} {W : World} {r : Reach} {base : Nat} {t : TypeId} {v : Value} {n e : Nat} (ht : P.underlying t = some (.array n e)) (h : Value.okWide P W r base t v) : ∃ cs, v = .agg cs := by
  unfold Value.okWide at h; rw [ht] at h; obtain ⟨cs, h, _⟩ := h; exact ⟨cs, h⟩
theorem agg_of {cs : Array Value} {l : List Value} (h : cs.toList = l) : Value.agg cs = .agg l.toArray := by
  subst h; simp
theorem rd_u8 {W : World} {v : Value} (h : RdT Tryd.prog W 5 v.cells.toList) : ∃ c : UInt8, v.cells.toList = [.int .u8 (c.toNat : Int)] := by
  obtain ⟨n, h1, h2⟩ := h.int Tryd.underlying5
  obtain ⟨c, rfl⟩ := u8_of h2
  exact ⟨c, h1⟩
theorem okInt {P : Program} {W : World} {r : Reach} {base : Nat} {t : TypeId} {v : Value} {k : IntKind} (ht : P.underlying t = some (.int k)) (h : Value.okWide P W r base t v) : ∃ n, v = .int k n := by
  have h : Cell.okWide P W r base t v := by unfold Value.okWide at h; rw [ht] at h; exact h
  have h : Cell.ok P W r base t v := by unfold Cell.okWide at h; rw [ht] at h; cases v <;> exact h
  unfold Cell.ok at h
  rw [ht] at h
  cases v with
  | int k' n => exact ⟨n, by rw [h.1]⟩
  | _ => exact h.elim
end Go.Proofs.YtojcfpgapfceiaaDoor
namespace Go.Proofs.YtojcfpgapfceiaaDoor
open Go Go.Ev Go.RowKit Go.Con
set_option linter.unusedSimpArgs false
set_option linter.unusedVariables false
set_option maxRecDepth 1000000
theorem rdU8 {W : World} {v : Value} (r : RdT Tryd.prog W 5 v.cells.toList) {base : Nat} (o : Value.okWide Tryd.prog W .any base 5 v) : ∃ c : UInt8, v = .int .u8 (c.toNat : Int) := by
  obtain ⟨n, rfl⟩ := okInt Tryd.underlying5 o
  obtain ⟨c, hc⟩ := rd_u8 r
  have hc : [Value.int .u8 n] = [.int .u8 (c.toNat : Int)] := hc
  cases hc
  exact ⟨c, rfl⟩
end Go.Proofs.YtojcfpgapfceiaaDoor
namespace Go.Proofs.YtojcfpgapfceiaaDoor
open Go Go.Ev Go.RowKit Go.Con
set_option linter.unusedSimpArgs false
set_option linter.unusedVariables false
set_option maxRecDepth 1000000
theorem rdTm {W : World} {cs : List Value} (r : RdT Tryd.prog W 54 cs) : ∃ x : Tm, cs = tmC x := by
  have hl := r.len Tryd.underlying54 (n := 4) (by kernel_rfl)
  match cs, hl, r with
  | [a, b, c, d], _, r =>
    obtain ⟨s, hs, _⟩ := (r.field Tryd.underlying54 0 9 0 1 rfl (by kernel_rfl)).string Tryd.underlying9
    have rf : RdT Tryd.prog W 39 [b, c, d] := r.field Tryd.underlying54 1 39 1 3 rfl (by kernel_rfl)
    have c1 : Tryd.prog.cellsOf 4 = 1 := by kernel_rfl
    obtain ⟨x, hx⟩ := (rf.field Tryd.underlying39 0 4 0 1 rfl c1).bool Tryd.underlying4
    obtain ⟨y, hy⟩ := (rf.field Tryd.underlying39 1 4 1 1 rfl c1).bool Tryd.underlying4
    obtain ⟨z, hz⟩ := (rf.field Tryd.underlying39 2 4 2 1 rfl c1).bool Tryd.underlying4
    cases hs; cases hx; cases hy; cases hz
    exact ⟨⟨s, ⟨x, y, z⟩⟩, rfl⟩
theorem tms_of {cs' : List Value} {xs : List Tm} (hl : cs'.length = xs.length * 4) (h : ∀ (i : Nat) (x : Tm), xs[i]? = some x → (cs'.drop (i * 4)).take 4 = tmC x) : cs' = tms xs := by
  induction xs generalizing cs' with
  | nil => have : cs'.length = 0 := by simpa using hl
           exact List.length_eq_zero_iff.1 this
  | cons a xs ih =>
    have h0 := h 0 a rfl
    rw [Nat.zero_mul, List.drop_zero] at h0
    have e : cs' = tmC a ++ cs'.drop 4 := by rw [← h0, List.take_append_drop]
    have e2 : cs'.drop 4 = tms xs := by
      refine ih (by rw [List.length_drop, hl, List.length_cons]; omega) fun i x hi => ?_
      have := h (i + 1) x (by simpa using hi)
      rw [List.drop_drop, ← this]; congr 2; omega
    rw [e, e2]; rfl
theorem tms_in {W : World} (hsh : W.ShapedOpen Tryd.prog) {cs : List Value} (r : RdT Tryd.prog W 22 cs) : ∃ (v v' : Value) (l : List Tm), cs = [v] ∧ (v = .slice none 0 0 ∨ ∃ a len cap, v = .slice (some a) len cap) ∧ absC W.heap.size v = some v' ∧ TmSl (hIn W) v' l := by
  obtain ⟨v, v', xs, cs', hv, hv2, hva, hsl, hlen, hR⟩ := sl_in (α := Tm) (n := 4) (fun x l => l = tmC x) (P := Tryd.prog) (W := W) (e := 54) (by kernel_rfl) (by omega)
    (fun l h => by obtain ⟨x, rfl⟩ := rdTm h; exact ⟨x, tmC x, rfl, rfl⟩) (by obtain ⟨m, h⟩ := maxLen hsh; exact ⟨_, h⟩) Tryd.underlying22 r
  have hcs := tms_of hlen hR
  subst hcs
  exact ⟨v, v', xs, hv, hv2, hva, hsl⟩
end Go.Proofs.YtojcfpgapfceiaaDoor
