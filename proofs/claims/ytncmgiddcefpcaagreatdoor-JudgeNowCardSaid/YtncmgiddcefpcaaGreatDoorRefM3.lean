/- Joined texts: ConRf ConRg ConRh. -/
import Derived.Test.YtncmgiddcefpcaaGreatDoorConDe
namespace Go.Proofs.YtncmgiddcefpcaaGreatDoor
open Go Go.Ev Go.Con
set_option linter.unusedSimpArgs false
set_option linter.unusedVariables false
set_option maxRecDepth 100000
def enC (e : En) : List Value := [.int .i64 e.dir, .int .i64 e.id, .string e.name]
def ens (l : List En) : List Value := (l.map enC).flatten
abbrev EnSl (h : Hp) (v : Value) (l : List En) : Prop := SlAt h 3 v (ens l)
theorem ens_len (l : List En) : (ens l).length = l.length * 3 := by
  induction l with
  | nil => rfl
  | cons a l ih => simp only [ens, List.map_cons, List.flatten_cons, List.length_append] at ih ⊢; rw [ih]; simp [enC]; omega
theorem ens_at (l : List En) {i : Nat} {x : En} (h : l[i]? = some x) : ((ens l).drop (i * 3)).take 3 = enC x := by
  induction l generalizing i with
  | nil => simp at h
  | cons a l ih =>
    cases i with
    | zero => simp at h; subst h; simp [ens, enC]
    | succ i =>
      have := ih (i := i) (by simpa using h)
      rw [show (i + 1) * 3 = 3 + i * 3 by omega]
      have e : (ens (a :: l)).drop (3 + i * 3) = (ens l).drop (i * 3) := by
        rw [← List.drop_drop]; congr 1
      rw [e, this]
theorem EnSl.len {h : Hp} {v : Value} {l : List En} (s : EnSl h v l) : evLen kon.P 95 v = some (.int .i64 l.length) := by
  rcases s with ⟨rfl, hl⟩ | ⟨b, o, k, c, all, rfl, h2, h3, h4, h5, h6⟩
  · have : (ens l).length = 0 := by rw [hl]; rfl
    rw [ens_len] at this
    have : l = [] := List.length_eq_zero_iff.1 (by omega)
    subst this; exact evLen_slice (e := 126) (by kernel_rfl)
  · rw [ens_len] at h5
    have : k = l.length := by omega
    subst this
    exact evLen_slice (e := 126) (by kernel_rfl)
theorem EnSl.at {h : Hp} {v : Value} {l : List En} (s : EnSl h v l) {i : Nat} {x : En} (hi : l[i]? = some x) : ∃ b o all, evIndexAddr kon.P 95 v (.int .i64 i) = some (.pointer (some ⟨b, o, none⟩)) ∧ b < h.next ∧
    rowOf h b = some all ∧ all[o]? = some (.int .i64 x.dir) ∧ all[o + 1]? = some (.int .i64 x.id) ∧ all[o + 2]? = some (.string x.name) := by
  have hlt : i < l.length := (List.getElem?_eq_some_iff.1 hi).1
  rcases s with ⟨rfl, hl⟩ | ⟨b, o, k, c, all, rfl, h2, h3, h4, h5, h6⟩
  · have : (ens l).length = 0 := by rw [hl]; rfl
    rw [ens_len] at this; omega
  · have hk : l.length = k := by rw [ens_len] at h5; omega
    subst hk
    have hz : o + l.length * 3 ≤ all.length := by
      have := congrArg List.length h6
      rw [List.length_take, List.length_drop, ens_len] at this; omega
    have hc : (all.drop (o + i * 3)).take 3 = enC x := by
      rw [← ens_at l hi, ← h6, List.drop_take, List.take_take, List.drop_drop]
      congr 1; omega
    refine ⟨b, o + i * 3, all, ?_, h3, h4, ?_, ?_, ?_⟩
    · have := L_indexAddr (C := kon) (t := 95) (e := 126) (n := 3) (by kernel_rfl) (by kernel_rfl) b o l.length c .i64 i (by omega) (by omega)
      simpa using this
    · have := congrArg (fun c : List Value => c[0]?) hc
      simpa [enC] using this
    · have := congrArg (fun c : List Value => c[1]?) hc
      simpa [enC] using this
    · have := congrArg (fun c : List Value => c[2]?) hc
      simpa [enC] using this
/-- Where a name is; -1: nowhere. -/
def atI (l : List En) (d : Int) (s : ByteArray) : Int := match l.findIdx? fun e => decide (e.key = (d, s)) with
  | some k => k
  | none => -1
theorem rAt_spec {h : Hp} {b : Nat} {sB sL sD : Value} {l : List En} (hr : rowOf h b = some [sB, sL, sD]) (s : EnSl h sL l) (hl : l.length ≤ 1000000000) (d : Int) (n : ByteArray) :
    Meets kon 80 [ptrV b, .int .i64 d, .string n] h fun v h' => v = .int .i64 (atI l d n) ∧ h' = h := by
  have la := s.len
  unfold ptrV
  refine Meets.mk rfl (by kernel_rfl) Tryz.func80 rfl (congrArg Array.toList Tryz.results80) ?_
  repeat' (first | simp only [evr, nextP_norm, evd, evq, beq_self_eq_true, cond_true, cond_false, reduceIte, Nat.reduceEqDiff, Nat.reduceAdd, Int.reduceBNe, Int.reduceBEq, Int.reduceLT, Int.reduceLE, Int.reduceEq, evh, evp, Nat.reduceLeDiff, Nat.reduceSub, Nat.reduceBEq, typs] | refine kCond2_by (fun hc => ?_) (fun hc => ?_) <;> try simp only [hc] | refine kPick_by (fun hc => ?_) (fun hc => ?_) <;> try simp only [hc] | refine kWant_by (fun hc => ?_) (fun hc => ?_) <;> try simp only [hc])
  refine Wp_loop (fun k fr h' => h' = h ∧ ∃ i : Nat, k = l.length - i ∧ i ≤ l.length ∧ fr.get 0 = some (.pointer (some ⟨b, 0, none⟩)) ∧ fr.get 1 = some (.int .i64 d) ∧ fr.get 2 = some (.string n) ∧ fr.get 7 = some (.int .i64 i) ∧ (∀ e ∈ l.take i, e.key ≠ (d, n))) l.length ⟨rfl, 0, rfl, Nat.zero_le _, ?_, ?_, ?_, ?_, by simp⟩ ?_
  · repeat' (first | simp only [evr, nextP_norm, evd, evq, beq_self_eq_true, cond_true, cond_false, reduceIte, Nat.reduceEqDiff, Nat.reduceAdd, Int.reduceBNe, Int.reduceBEq, Int.reduceLT, Int.reduceLE, Int.reduceEq, evh, evp, Nat.reduceLeDiff, Nat.reduceSub, Nat.reduceBEq, typs] | refine kCond2_by (fun hc => ?_) (fun hc => ?_) <;> try simp only [hc] | refine kPick_by (fun hc => ?_) (fun hc => ?_) <;> try simp only [hc] | refine kWant_by (fun hc => ?_) (fun hc => ?_) <;> try simp only [hc])
  · repeat' (first | simp only [evr, nextP_norm, evd, evq, beq_self_eq_true, cond_true, cond_false, reduceIte, Nat.reduceEqDiff, Nat.reduceAdd, Int.reduceBNe, Int.reduceBEq, Int.reduceLT, Int.reduceLE, Int.reduceEq, evh, evp, Nat.reduceLeDiff, Nat.reduceSub, Nat.reduceBEq, typs] | refine kCond2_by (fun hc => ?_) (fun hc => ?_) <;> try simp only [hc] | refine kPick_by (fun hc => ?_) (fun hc => ?_) <;> try simp only [hc] | refine kWant_by (fun hc => ?_) (fun hc => ?_) <;> try simp only [hc])
  · repeat' (first | simp only [evr, nextP_norm, evd, evq, beq_self_eq_true, cond_true, cond_false, reduceIte, Nat.reduceEqDiff, Nat.reduceAdd, Int.reduceBNe, Int.reduceBEq, Int.reduceLT, Int.reduceLE, Int.reduceEq, evh, evp, Nat.reduceLeDiff, Nat.reduceSub, Nat.reduceBEq, typs] | refine kCond2_by (fun hc => ?_) (fun hc => ?_) <;> try simp only [hc] | refine kPick_by (fun hc => ?_) (fun hc => ?_) <;> try simp only [hc] | refine kWant_by (fun hc => ?_) (fun hc => ?_) <;> try simp only [hc])
  · repeat' (first | simp only [evr, nextP_norm, evd, evq, beq_self_eq_true, cond_true, cond_false, reduceIte, Nat.reduceEqDiff, Nat.reduceAdd, Int.reduceBNe, Int.reduceBEq, Int.reduceLT, Int.reduceLE, Int.reduceEq, evh, evp, Nat.reduceLeDiff, Nat.reduceSub, Nat.reduceBEq, typs] | refine kCond2_by (fun hc => ?_) (fun hc => ?_) <;> try simp only [hc] | refine kPick_by (fun hc => ?_) (fun hc => ?_) <;> try simp only [hc] | refine kWant_by (fun hc => ?_) (fun hc => ?_) <;> try simp only [hc])
    rfl
  rintro k fr h' ⟨rfl, i, rfl, hi, g0, g1, g2, g7, hp⟩
  by_cases h3 : i < l.length
  · have e3 : decide ((i : Int) < l.length) = true := by simp; omega
    obtain ⟨b2, o, all, ha, hb, hr2, c0, c1, c2⟩ := EnSl.at s (List.getElem?_eq_getElem h3)
    have w1 := wrap64 (x := (i : Int) + 1) (by omega) (by omega)
    by_cases hk : l[i].key = (d, n)
    · have k1 : (l[i].dir == d) = true := by have := congrArg Prod.fst hk; simpa [En.key] using this
      have k2 : decide (l[i].name = n) = true := by have := congrArg Prod.snd hk; simpa [En.key] using this
      repeat' (first | simp only [evr, nextP_norm, evd, evq, beq_self_eq_true, cond_true, cond_false, reduceIte, Nat.reduceEqDiff, Nat.reduceAdd, Int.reduceBNe, Int.reduceBEq, Int.reduceLT, Int.reduceLE, Int.reduceEq, evh, evp, Nat.reduceLeDiff, Nat.reduceSub, Nat.reduceBEq, typs, g0, g1, g2, g7, hr, la, e3, ha, hr2, c0, c2, k1, k2] | refine kCond2_by (fun hc => ?_) (fun hc => ?_) <;> try simp only [hc] | refine kPick_by (fun hc => ?_) (fun hc => ?_) <;> try simp only [hc] | refine kWant_by (fun hc => ?_) (fun hc => ?_) <;> try simp only [hc])
      unfold atI
      have : l.findIdx? (fun e => decide (e.key = (d, n))) = some i := by
        rw [List.findIdx?_eq_some_iff_getElem]
        refine ⟨h3, by simpa using hk, fun j hj => ?_⟩
        have := hp l[j] (List.mem_take_iff_getElem.2 ⟨j, by omega, rfl⟩)
        simpa using this
      rw [this]
    · have nxt : ∀ e ∈ l.take (i + 1), e.key ≠ (d, n) := fun e he => by
        rw [← List.take_append_getElem h3] at he
        rcases List.mem_append.1 he with he | he
        · exact hp e he
        · simp only [List.mem_singleton] at he; subst he; exact hk
      by_cases k1 : l[i].dir = d
      · have k1' : (l[i].dir == d) = true := by simp [k1]
        have k2 : decide (l[i].name = n) = false := decide_eq_false fun e => hk (by unfold En.key; rw [k1, e])
        repeat' (first | simp only [evr, nextP_norm, evd, evq, beq_self_eq_true, cond_true, cond_false, reduceIte, Nat.reduceEqDiff, Nat.reduceAdd, Int.reduceBNe, Int.reduceBEq, Int.reduceLT, Int.reduceLE, Int.reduceEq, evh, evp, Nat.reduceLeDiff, Nat.reduceSub, Nat.reduceBEq, typs, g0, g1, g2, g7, hr, la, e3, ha, hr2, c0, c2, k1', k2, w1] | refine kCond2_by (fun hc => ?_) (fun hc => ?_) <;> try simp only [hc] | refine kPick_by (fun hc => ?_) (fun hc => ?_) <;> try simp only [hc] | refine kWant_by (fun hc => ?_) (fun hc => ?_) <;> try simp only [hc])
        exact ⟨l.length - (i + 1), by omega, i + 1, rfl, by omega, rfl, nxt⟩
      · have k1' : (l[i].dir == d) = false := by simp [k1]
        repeat' (first | simp only [evr, nextP_norm, evd, evq, beq_self_eq_true, cond_true, cond_false, reduceIte, Nat.reduceEqDiff, Nat.reduceAdd, Int.reduceBNe, Int.reduceBEq, Int.reduceLT, Int.reduceLE, Int.reduceEq, evh, evp, Nat.reduceLeDiff, Nat.reduceSub, Nat.reduceBEq, typs, g0, g1, g2, g7, hr, la, e3, ha, hr2, c0, c2, k1', w1] | refine kCond2_by (fun hc => ?_) (fun hc => ?_) <;> try simp only [hc] | refine kPick_by (fun hc => ?_) (fun hc => ?_) <;> try simp only [hc] | refine kWant_by (fun hc => ?_) (fun hc => ?_) <;> try simp only [hc])
        exact ⟨l.length - (i + 1), by omega, i + 1, rfl, by omega, rfl, nxt⟩
  · have e3 : decide ((i : Int) < l.length) = false := by simp; omega
    repeat' (first | simp only [evr, nextP_norm, evd, evq, beq_self_eq_true, cond_true, cond_false, reduceIte, Nat.reduceEqDiff, Nat.reduceAdd, Int.reduceBNe, Int.reduceBEq, Int.reduceLT, Int.reduceLE, Int.reduceEq, evh, evp, Nat.reduceLeDiff, Nat.reduceSub, Nat.reduceBEq, typs, g0, g1, g2, g7, hr, la, e3] | refine kCond2_by (fun hc => ?_) (fun hc => ?_) <;> try simp only [hc] | refine kPick_by (fun hc => ?_) (fun hc => ?_) <;> try simp only [hc] | refine kWant_by (fun hc => ?_) (fun hc => ?_) <;> try simp only [hc])
    unfold atI
    have hi2 : i = l.length := by omega
    subst hi2
    rw [List.take_length] at hp
    have : l.findIdx? (fun e => decide (e.key = (d, n))) = none := by
      rw [List.findIdx?_eq_none_iff]; intro e he; simpa using hp e he
    rw [this]
abbrev BoSl (h : Hp) (v : Value) (l : List Bool) : Prop := SlAt h 1 v (l.map Value.bool)
theorem BoSl.len {h : Hp} {v : Value} {l : List Bool} (s : BoSl h v l) : evLen kon.P 93 v = some (.int .i64 l.length) := by
  rcases s with ⟨rfl, hl⟩ | ⟨b, o, k, c, all, rfl, h2, h3, h4, h5, h6⟩
  · have : l = [] := by simpa using hl
    subst this
    exact evLen_slice (e := 4) (by kernel_rfl)
  · have : k = l.length := by simpa using h5.symm
    subst this
    exact evLen_slice (e := 4) (by kernel_rfl)
theorem BoSl.at {h : Hp} {v : Value} {l : List Bool} (s : BoSl h v l) {i : Nat} {x : Bool} (hi : l[i]? = some x) : ∃ b o all, evIndexAddr kon.P 93 v (.int .i64 i) = some (.pointer (some ⟨b, o, none⟩)) ∧ b < h.next ∧ rowOf h b = some all ∧ all[o]? = some (.bool x) := by
  have hlt : i < l.length := (List.getElem?_eq_some_iff.1 hi).1
  rcases s with ⟨rfl, hl⟩ | ⟨b, o, k, c, all, rfl, h2, h3, h4, h5, h6⟩
  · have : l = [] := by simpa using hl
    subst this; simp at hlt
  · have hk : k = l.length := by simpa using h5.symm
    subst hk
    refine ⟨b, o + i, all, ?_, h3, h4, ?_⟩
    · have := L_indexAddr (C := kon) (t := 93) (e := 4) (n := 1) (by kernel_rfl) (by kernel_rfl) b o l.length c .i64 i (by omega) (by omega)
      simpa using this
    · have h7 : ((all.drop o).take (l.length * 1))[i]? = some (.bool x) := by rw [h6]; simp [hi]
      rw [List.getElem?_take, if_pos (by omega), List.getElem?_drop] at h7
      exact h7
theorem rDir_spec {h : Hp} {b : Nat} {sB sL sD : Value} {D : List Bool} (hr : rowOf h b = some [sB, sL, sD]) (s : BoSl h sD D) (d : Int) :
    Meets kon 95 [ptrV b, .int .i64 d] h fun v h' => v = .bool (decide (0 ≤ d) && (D[d.toNat]? == some true)) ∧ h' = h := by
  have la := s.len
  unfold ptrV
  refine Meets.mk rfl (by kernel_rfl) Tryz.func95 rfl (congrArg Array.toList Tryz.results95) ?_
  by_cases h0 : 0 ≤ d
  · have f0 : decide (0 ≤ d) = true := decide_eq_true h0
    by_cases h1 : d < D.length
    · have f1 : decide (d < (D.length : Int)) = true := decide_eq_true h1
      have hlt : d.toNat < D.length := by omega
      obtain ⟨b2, o, all, ha, hb, hr2, c0⟩ := s.at (List.getElem?_eq_getElem hlt)
      rw [show ((d.toNat : Nat) : Int) = d by omega] at ha
      have e1 : D[d.toNat]? = some D[d.toNat] := List.getElem?_eq_getElem hlt
      cases hv : D[d.toNat] <;> rw [hv] at c0 e1
      all_goals
        repeat' (first | simp only [evr, nextP_norm, evd, evq, beq_self_eq_true, cond_true, cond_false, reduceIte, Nat.reduceEqDiff, Nat.reduceAdd, Int.reduceBNe, Int.reduceBEq, Int.reduceLT, Int.reduceLE, Int.reduceEq, evh, evp, Nat.reduceLeDiff, Nat.reduceSub, Nat.reduceBEq, typs, hr, la, f0, f1, ha, hr2, c0] | refine kCond2_by (fun hc => ?_) (fun hc => ?_) <;> try simp only [hc] | refine kPick_by (fun hc => ?_) (fun hc => ?_) <;> try simp only [hc] | refine kWant_by (fun hc => ?_) (fun hc => ?_) <;> try simp only [hc])
        rw [e1]; rfl
    · have f1 : decide (d < (D.length : Int)) = false := decide_eq_false h1
      repeat' (first | simp only [evr, nextP_norm, evd, evq, beq_self_eq_true, cond_true, cond_false, reduceIte, Nat.reduceEqDiff, Nat.reduceAdd, Int.reduceBNe, Int.reduceBEq, Int.reduceLT, Int.reduceLE, Int.reduceEq, evh, evp, Nat.reduceLeDiff, Nat.reduceSub, Nat.reduceBEq, typs, hr, la, f0, f1] | refine kCond2_by (fun hc => ?_) (fun hc => ?_) <;> try simp only [hc] | refine kPick_by (fun hc => ?_) (fun hc => ?_) <;> try simp only [hc] | refine kWant_by (fun hc => ?_) (fun hc => ?_) <;> try simp only [hc])
      rw [List.getElem?_eq_none (by omega)]; rfl
  · have f0 : decide (0 ≤ d) = false := decide_eq_false h0
    repeat' (first | simp only [evr, nextP_norm, evd, evq, beq_self_eq_true, cond_true, cond_false, reduceIte, Nat.reduceEqDiff, Nat.reduceAdd, Int.reduceBNe, Int.reduceBEq, Int.reduceLT, Int.reduceLE, Int.reduceEq, evh, evp, Nat.reduceLeDiff, Nat.reduceSub, Nat.reduceBEq, typs, hr, la, f0] | refine kCond2_by (fun hc => ?_) (fun hc => ?_) <;> try simp only [hc] | refine kPick_by (fun hc => ?_) (fun hc => ?_) <;> try simp only [hc] | refine kWant_by (fun hc => ?_) (fun hc => ?_) <;> try simp only [hc])
    rfl
end Go.Proofs.YtncmgiddcefpcaaGreatDoor

namespace Go.Proofs.YtncmgiddcefpcaaGreatDoor
open Go Go.Ev Go.Con
set_option linter.unusedSimpArgs false
set_option linter.unusedVariables false
set_option maxRecDepth 100000
/-- A slice of branches. -/
def BnSl (h : Hp) (F : Nat → Prop) (v : Value) (B : List Bn) : Prop := ∃ cs, SlAt h 10 v cs ∧ cs.length = B.length * 10 ∧ ∀ i x, B[i]? = some x → ∃ sl, (cs.drop (i * 10)).take 10 = bnC x sl ∧ TmTy h F sl x.acl
theorem BnSl.at {h : Hp} {F : Nat → Prop} {v : Value} {B : List Bn} (s : BnSl h F v B) {i : Nat} {x : Bn} (hi : B[i]? = some x) : ∃ b o all sl, evIndexAddr kon.P 94 v (.int .i64 i) = some (.pointer (some ⟨b, o, none⟩)) ∧ b < h.next ∧
    rowOf h b = some all ∧ o + 10 ≤ all.length ∧ (all.drop o).take 10 = bnC x sl ∧ TmTy h F sl x.acl := by
  obtain ⟨cs, s, hl, hx⟩ := s
  have hlt : i < B.length := (List.getElem?_eq_some_iff.1 hi).1
  obtain ⟨sl, h8, h9⟩ := hx i x hi
  rcases s with ⟨rfl, rfl⟩ | ⟨b, o, k, c, all, rfl, h2, h3, h4, h5, h6⟩
  · simp at hl; omega
  · have hk : k = B.length := by omega
    subst hk
    have hz : o + B.length * 10 ≤ all.length := by
      have := congrArg List.length h6
      rw [List.length_take, List.length_drop] at this; omega
    refine ⟨b, o + i * 10, all, sl, ?_, h3, h4, by omega, ?_, h9⟩
    · have := L_indexAddr (C := kon) (t := 94) (e := 34) (n := 10) (by kernel_rfl) (by kernel_rfl) b o B.length c .i64 i (by omega) (by omega)
      simpa using this
    · rw [← h8, ← h6, List.drop_take, List.take_take, List.drop_drop]
      congr 1; omega
def uidI (o : Option Nat) : Int := match o with
  | some i => i
  | none => -1
theorem rUid_spec {h : Hp} {F : Nat → Prop} {b : Nat} {sB sL sD : Value} {T : Hi} (hr : rowOf h b = some [sB, sL, sD]) (s : EnSl h sL T.L) (sb : BnSl h F sB T.B) (hl : T.L.length ≤ 1000000000) (ids : ∀ e ∈ T.L, e.id < T.B.length) (u : Int) :
    Meets kon 97 [ptrV b, .int .i64 u] h fun v h' => v = .int .i64 (uidI (T.seg u)) ∧ h' = h := by
  have la := s.len
  unfold ptrV
  refine Meets.mk rfl (by kernel_rfl) Tryz.func97 rfl (congrArg Array.toList Tryz.results97) ?_
  repeat' (first | simp only [evr, nextP_norm, evd, evq, beq_self_eq_true, cond_true, cond_false, reduceIte, Nat.reduceEqDiff, Nat.reduceAdd, Int.reduceBNe, Int.reduceBEq, Int.reduceLT, Int.reduceLE, Int.reduceEq, evh, evp, Nat.reduceLeDiff, Nat.reduceSub, Nat.reduceBEq, typs] | refine kCond2_by (fun hc => ?_) (fun hc => ?_) <;> try simp only [hc] | refine kPick_by (fun hc => ?_) (fun hc => ?_) <;> try simp only [hc] | refine kWant_by (fun hc => ?_) (fun hc => ?_) <;> try simp only [hc])
  refine Wp_loop (fun k fr h' => h' = h ∧ ∃ i : Nat, k = T.L.length - i ∧ i ≤ T.L.length ∧ fr.get 0 = some (.pointer (some ⟨b, 0, none⟩)) ∧ fr.get 1 = some (.int .i64 u) ∧ fr.get 5 = some (.int .i64 i) ∧ (∀ e ∈ T.L.take i, T.isSeg u e.id = false)) T.L.length ⟨rfl, 0, rfl, Nat.zero_le _, ?_, ?_, ?_, by simp⟩ ?_
  · repeat' (first | simp only [evr, nextP_norm, evd, evq, beq_self_eq_true, cond_true, cond_false, reduceIte, Nat.reduceEqDiff, Nat.reduceAdd, Int.reduceBNe, Int.reduceBEq, Int.reduceLT, Int.reduceLE, Int.reduceEq, evh, evp, Nat.reduceLeDiff, Nat.reduceSub, Nat.reduceBEq, typs] | refine kCond2_by (fun hc => ?_) (fun hc => ?_) <;> try simp only [hc] | refine kPick_by (fun hc => ?_) (fun hc => ?_) <;> try simp only [hc] | refine kWant_by (fun hc => ?_) (fun hc => ?_) <;> try simp only [hc])
  · repeat' (first | simp only [evr, nextP_norm, evd, evq, beq_self_eq_true, cond_true, cond_false, reduceIte, Nat.reduceEqDiff, Nat.reduceAdd, Int.reduceBNe, Int.reduceBEq, Int.reduceLT, Int.reduceLE, Int.reduceEq, evh, evp, Nat.reduceLeDiff, Nat.reduceSub, Nat.reduceBEq, typs] | refine kCond2_by (fun hc => ?_) (fun hc => ?_) <;> try simp only [hc] | refine kPick_by (fun hc => ?_) (fun hc => ?_) <;> try simp only [hc] | refine kWant_by (fun hc => ?_) (fun hc => ?_) <;> try simp only [hc])
  · repeat' (first | simp only [evr, nextP_norm, evd, evq, beq_self_eq_true, cond_true, cond_false, reduceIte, Nat.reduceEqDiff, Nat.reduceAdd, Int.reduceBNe, Int.reduceBEq, Int.reduceLT, Int.reduceLE, Int.reduceEq, evh, evp, Nat.reduceLeDiff, Nat.reduceSub, Nat.reduceBEq, typs] | refine kCond2_by (fun hc => ?_) (fun hc => ?_) <;> try simp only [hc] | refine kPick_by (fun hc => ?_) (fun hc => ?_) <;> try simp only [hc] | refine kWant_by (fun hc => ?_) (fun hc => ?_) <;> try simp only [hc])
    rfl
  rintro k fr h' ⟨rfl, i, rfl, hi, g0, g1, g5, hp⟩
  by_cases h3 : i < T.L.length
  · have e3 : decide ((i : Int) < T.L.length) = true := by simp; omega
    obtain ⟨b2, o, all, ha, hb, hr2, c0, c1, c2⟩ := EnSl.at s (List.getElem?_eq_getElem h3)
    have hid := ids _ (List.getElem_mem h3)
    obtain ⟨b3, o3, all3, sl3, ha3, hb3, hr3, hz3, hc3, _⟩ := sb.at (List.getElem?_eq_getElem hid)
    have hbr : T.br T.L[i].id = T.B[T.L[i].id] := Hi.br_lt hid
    rw [← hbr] at hc3
    have d0 : all3[o3]? = some (.int .i64 (T.br T.L[i].id).kind) := by
      have := congrArg (fun c : List Value => c[0]?) hc3
      simpa [bnC] using this
    have d1 : all3[o3 + 1]? = some (.int .i64 (T.br T.L[i].id).uid) := by
      have := congrArg (fun c : List Value => c[1]?) hc3
      simpa [bnC] using this
    have w1 := wrap64 (x := (i : Int) + 1) (by omega) (by omega)
    have nxt : T.isSeg u T.L[i].id = false → ∀ e ∈ T.L.take (i + 1), T.isSeg u e.id = false := fun hk e he => by
      rw [← List.take_append_getElem h3] at he
      rcases List.mem_append.1 he with he | he
      · exact hp e he
      · simp only [List.mem_singleton] at he; subst he; exact hk
    repeat' (first | simp only [evr, nextP_norm, evd, evq, beq_self_eq_true, cond_true, cond_false, reduceIte, Nat.reduceEqDiff, Nat.reduceAdd, Int.reduceBNe, Int.reduceBEq, Int.reduceLT, Int.reduceLE, Int.reduceEq, evh, evp, Nat.reduceLeDiff, Nat.reduceSub, Nat.reduceBEq, typs, g0, g1, g5, hr, la, e3] | refine kCond2_by (fun hc => ?_) (fun hc => ?_) <;> try simp only [hc] | refine kPick_by (fun hc => ?_) (fun hc => ?_) <;> try simp only [hc] | refine kWant_by (fun hc => ?_) (fun hc => ?_) <;> try simp only [hc])
    refine Eq.mpr (Wp_drawOrd (KR.mk (by kernel_rfl))) ?_
    by_cases k1 : (T.br T.L[i].id).kind = 1
    · have k1' : ((T.br T.L[i].id).kind == 1) = true := by simp [k1]
      by_cases k2 : (T.br T.L[i].id).uid = u
      · have k2' : ((T.br T.L[i].id).uid == u) = true := by simp [k2]
        repeat' (first | simp only [evr, nextP_norm, evd, evq, beq_self_eq_true, cond_true, cond_false, reduceIte, Nat.reduceEqDiff, Nat.reduceAdd, Int.reduceBNe, Int.reduceBEq, Int.reduceLT, Int.reduceLE, Int.reduceEq, evh, evp, Nat.reduceLeDiff, Nat.reduceSub, Nat.reduceBEq, typs, g0, g1, g5, hr, la, ha, hr2, c1, ha3, hr3, d0, d1, k1', k2'] | refine kCond2_by (fun hc => ?_) (fun hc => ?_) <;> try simp only [hc] | refine kPick_by (fun hc => ?_) (fun hc => ?_) <;> try simp only [hc] | refine kWant_by (fun hc => ?_) (fun hc => ?_) <;> try simp only [hc])
        have hf : T.seg u = some T.L[i].id := by
          unfold Hi.seg
          have : T.L.find? (fun e => T.isSeg u e.id) = some T.L[i] := by
            rw [List.find?_eq_some_iff_getElem]
            refine ⟨by simp [Hi.isSeg, k1, k2], i, h3, rfl, fun j hj => ?_⟩
            have := hp T.L[j] (List.mem_take_iff_getElem.2 ⟨j, by omega, rfl⟩)
            simp [this]
          rw [this]; rfl
        rw [hf]; rfl
      · have k2' : ((T.br T.L[i].id).uid == u) = false := by simp [k2]
        repeat' (first | simp only [evr, nextP_norm, evd, evq, beq_self_eq_true, cond_true, cond_false, reduceIte, Nat.reduceEqDiff, Nat.reduceAdd, Int.reduceBNe, Int.reduceBEq, Int.reduceLT, Int.reduceLE, Int.reduceEq, evh, evp, Nat.reduceLeDiff, Nat.reduceSub, Nat.reduceBEq, typs, g0, g1, g5, hr, la, ha, hr2, c1, ha3, hr3, d0, d1, k1', k2', w1] | refine kCond2_by (fun hc => ?_) (fun hc => ?_) <;> try simp only [hc] | refine kPick_by (fun hc => ?_) (fun hc => ?_) <;> try simp only [hc] | refine kWant_by (fun hc => ?_) (fun hc => ?_) <;> try simp only [hc])
        exact ⟨T.L.length - (i + 1), by omega, i + 1, rfl, by omega, rfl, nxt (by simp [Hi.isSeg, k2])⟩
    · have k1' : ((T.br T.L[i].id).kind == 1) = false := by simp [k1]
      repeat' (first | simp only [evr, nextP_norm, evd, evq, beq_self_eq_true, cond_true, cond_false, reduceIte, Nat.reduceEqDiff, Nat.reduceAdd, Int.reduceBNe, Int.reduceBEq, Int.reduceLT, Int.reduceLE, Int.reduceEq, evh, evp, Nat.reduceLeDiff, Nat.reduceSub, Nat.reduceBEq, typs, g0, g1, g5, hr, la, ha, hr2, c1, ha3, hr3, d0, d1, k1', w1] | refine kCond2_by (fun hc => ?_) (fun hc => ?_) <;> try simp only [hc] | refine kPick_by (fun hc => ?_) (fun hc => ?_) <;> try simp only [hc] | refine kWant_by (fun hc => ?_) (fun hc => ?_) <;> try simp only [hc])
      exact ⟨T.L.length - (i + 1), by omega, i + 1, rfl, by omega, rfl, nxt (by simp [Hi.isSeg, k1])⟩
  · have e3 : decide ((i : Int) < T.L.length) = false := by simp; omega
    repeat' (first | simp only [evr, nextP_norm, evd, evq, beq_self_eq_true, cond_true, cond_false, reduceIte, Nat.reduceEqDiff, Nat.reduceAdd, Int.reduceBNe, Int.reduceBEq, Int.reduceLT, Int.reduceLE, Int.reduceEq, evh, evp, Nat.reduceLeDiff, Nat.reduceSub, Nat.reduceBEq, typs, g0, g1, g5, hr, la, e3] | refine kCond2_by (fun hc => ?_) (fun hc => ?_) <;> try simp only [hc] | refine kPick_by (fun hc => ?_) (fun hc => ?_) <;> try simp only [hc] | refine kWant_by (fun hc => ?_) (fun hc => ?_) <;> try simp only [hc])
    have hi2 : i = T.L.length := by omega
    subst hi2
    rw [List.take_length] at hp
    rw [Hi.seg_none.2 hp]; rfl
end Go.Proofs.YtncmgiddcefpcaaGreatDoor

namespace Go.Proofs.YtncmgiddcefpcaaGreatDoor
open Go Go.Ev Go.Con
set_option linter.unusedSimpArgs false
set_option linter.unusedVariables false
set_option maxRecDepth 100000
theorem rNames_spec {h : Hp} {b : Nat} {sB sL sD : Value} {T : Hi} (hr : rowOf h b = some [sB, sL, sD]) (s : EnSl h sL T.L) (hl : T.L.length ≤ 1000000000) (j : Nat) :
    Meets kon 81 [ptrV b, .int .i64 j] h fun v h' => v = .int .i64 (T.many j) ∧ h' = h := by
  have la := s.len
  unfold ptrV
  refine Meets.mk rfl (by kernel_rfl) Tryz.func81 rfl (congrArg Array.toList Tryz.results81) ?_
  repeat' (first | simp only [evr, nextP_norm, evd, evq, beq_self_eq_true, cond_true, cond_false, reduceIte, Nat.reduceEqDiff, Nat.reduceAdd, Int.reduceBNe, Int.reduceBEq, Int.reduceLT, Int.reduceLE, Int.reduceEq, evh, evp, Nat.reduceLeDiff, Nat.reduceSub, Nat.reduceBEq, typs] | refine kCond2_by (fun hc => ?_) (fun hc => ?_) <;> try simp only [hc] | refine kPick_by (fun hc => ?_) (fun hc => ?_) <;> try simp only [hc] | refine kWant_by (fun hc => ?_) (fun hc => ?_) <;> try simp only [hc])
  refine Wp_loop (fun k fr h' => h' = h ∧ ∃ i : Nat, k = T.L.length - i ∧ i ≤ T.L.length ∧ fr.get 0 = some (.pointer (some ⟨b, 0, none⟩)) ∧ fr.get 1 = some (.int .i64 j) ∧ fr.get 6 = some (.int .i64 i) ∧ fr.get 5 = some (.int .i64 ((T.L.take i).countP fun e => decide (e.id = j) : Nat))) T.L.length ⟨rfl, 0, rfl, Nat.zero_le _, ?_, ?_, ?_, ?_⟩ ?_
  · repeat' (first | simp only [evr, nextP_norm, evd, evq, beq_self_eq_true, cond_true, cond_false, reduceIte, Nat.reduceEqDiff, Nat.reduceAdd, Int.reduceBNe, Int.reduceBEq, Int.reduceLT, Int.reduceLE, Int.reduceEq, evh, evp, Nat.reduceLeDiff, Nat.reduceSub, Nat.reduceBEq, typs] | refine kCond2_by (fun hc => ?_) (fun hc => ?_) <;> try simp only [hc] | refine kPick_by (fun hc => ?_) (fun hc => ?_) <;> try simp only [hc] | refine kWant_by (fun hc => ?_) (fun hc => ?_) <;> try simp only [hc])
  · repeat' (first | simp only [evr, nextP_norm, evd, evq, beq_self_eq_true, cond_true, cond_false, reduceIte, Nat.reduceEqDiff, Nat.reduceAdd, Int.reduceBNe, Int.reduceBEq, Int.reduceLT, Int.reduceLE, Int.reduceEq, evh, evp, Nat.reduceLeDiff, Nat.reduceSub, Nat.reduceBEq, typs] | refine kCond2_by (fun hc => ?_) (fun hc => ?_) <;> try simp only [hc] | refine kPick_by (fun hc => ?_) (fun hc => ?_) <;> try simp only [hc] | refine kWant_by (fun hc => ?_) (fun hc => ?_) <;> try simp only [hc])
  · repeat' (first | simp only [evr, nextP_norm, evd, evq, beq_self_eq_true, cond_true, cond_false, reduceIte, Nat.reduceEqDiff, Nat.reduceAdd, Int.reduceBNe, Int.reduceBEq, Int.reduceLT, Int.reduceLE, Int.reduceEq, evh, evp, Nat.reduceLeDiff, Nat.reduceSub, Nat.reduceBEq, typs] | refine kCond2_by (fun hc => ?_) (fun hc => ?_) <;> try simp only [hc] | refine kPick_by (fun hc => ?_) (fun hc => ?_) <;> try simp only [hc] | refine kWant_by (fun hc => ?_) (fun hc => ?_) <;> try simp only [hc])
    rfl
  · repeat' (first | simp only [evr, nextP_norm, evd, evq, beq_self_eq_true, cond_true, cond_false, reduceIte, Nat.reduceEqDiff, Nat.reduceAdd, Int.reduceBNe, Int.reduceBEq, Int.reduceLT, Int.reduceLE, Int.reduceEq, evh, evp, Nat.reduceLeDiff, Nat.reduceSub, Nat.reduceBEq, typs] | refine kCond2_by (fun hc => ?_) (fun hc => ?_) <;> try simp only [hc] | refine kPick_by (fun hc => ?_) (fun hc => ?_) <;> try simp only [hc] | refine kWant_by (fun hc => ?_) (fun hc => ?_) <;> try simp only [hc])
    rfl
  rintro k fr h' ⟨rfl, i, rfl, hi, g0, g1, g6, g5⟩
  have hcle : (T.L.take i).countP (fun e => decide (e.id = j)) ≤ i := Nat.le_trans List.countP_le_length (by rw [List.length_take]; exact Nat.min_le_left _ _)
  by_cases h3 : i < T.L.length
  · have e3 : decide ((i : Int) < T.L.length) = true := by simp; omega
    obtain ⟨b2, o, all, ha, hb, hr2, c0, c1, c2⟩ := EnSl.at s (List.getElem?_eq_getElem h3)
    have w1 := wrap64 (x := (i : Int) + 1) (by omega) (by omega)
    have hc : (T.L.take (i + 1)).countP (fun e => decide (e.id = j)) = (T.L.take i).countP (fun e => decide (e.id = j)) + if T.L[i].id = j then 1 else 0 := by
      rw [← List.take_append_getElem h3, List.countP_append, List.countP_singleton]; simp
    generalize (T.L.take i).countP (fun e => decide (e.id = j)) = q at *
    by_cases k1 : T.L[i].id = j
    · have k1' : (((T.L[i].id : Nat) : Int) == (j : Int)) = true := by simp [k1]
      have w2 := wrap64 (x := (q : Int) + 1) (by omega) (by omega)
      rw [if_pos k1] at hc
      repeat' (first | simp only [evr, nextP_norm, evd, evq, beq_self_eq_true, cond_true, cond_false, reduceIte, Nat.reduceEqDiff, Nat.reduceAdd, Int.reduceBNe, Int.reduceBEq, Int.reduceLT, Int.reduceLE, Int.reduceEq, evh, evp, Nat.reduceLeDiff, Nat.reduceSub, Nat.reduceBEq, typs, g0, g1, g6, g5, hr, la, e3, ha, hr2, c1, k1', w1, w2] | refine kCond2_by (fun hc => ?_) (fun hc => ?_) <;> try simp only [hc] | refine kPick_by (fun hc => ?_) (fun hc => ?_) <;> try simp only [hc] | refine kWant_by (fun hc => ?_) (fun hc => ?_) <;> try simp only [hc])
      exact ⟨T.L.length - (i + 1), by omega, i + 1, rfl, by omega, rfl, by rw [hc]; rfl⟩
    · have k1' : (((T.L[i].id : Nat) : Int) == (j : Int)) = false := by simp; omega
      rw [if_neg k1] at hc
      repeat' (first | simp only [evr, nextP_norm, evd, evq, beq_self_eq_true, cond_true, cond_false, reduceIte, Nat.reduceEqDiff, Nat.reduceAdd, Int.reduceBNe, Int.reduceBEq, Int.reduceLT, Int.reduceLE, Int.reduceEq, evh, evp, Nat.reduceLeDiff, Nat.reduceSub, Nat.reduceBEq, typs, g0, g1, g6, g5, hr, la, e3, ha, hr2, c1, k1', w1] | refine kCond2_by (fun hc => ?_) (fun hc => ?_) <;> try simp only [hc] | refine kPick_by (fun hc => ?_) (fun hc => ?_) <;> try simp only [hc] | refine kWant_by (fun hc => ?_) (fun hc => ?_) <;> try simp only [hc])
      exact ⟨T.L.length - (i + 1), by omega, i + 1, rfl, by omega, rfl, by rw [hc]; rfl⟩
  · have e3 : decide ((i : Int) < T.L.length) = false := by simp; omega
    have hi2 : i = T.L.length := by omega
    subst hi2
    rw [List.take_length] at g5
    repeat' (first | simp only [evr, nextP_norm, evd, evq, beq_self_eq_true, cond_true, cond_false, reduceIte, Nat.reduceEqDiff, Nat.reduceAdd, Int.reduceBNe, Int.reduceBEq, Int.reduceLT, Int.reduceLE, Int.reduceEq, evh, evp, Nat.reduceLeDiff, Nat.reduceSub, Nat.reduceBEq, typs, g0, g1, g6, g5, hr, la, e3] | refine kCond2_by (fun hc => ?_) (fun hc => ?_) <;> try simp only [hc] | refine kPick_by (fun hc => ?_) (fun hc => ?_) <;> try simp only [hc] | refine kWant_by (fun hc => ?_) (fun hc => ?_) <;> try simp only [hc])
    rfl
end Go.Proofs.YtncmgiddcefpcaaGreatDoor
