/- names: the contracts of the program's and the reference's functions on names and path names. -/
import Derived.Test.YtncmgiddcefpcaaGreatDoorTyp
import Derived.Test.YtncmgiddcefpcaaGreatDoorEvM3
import Derived.Test.YtncmgiddcefpcaaGreatDoorEvM4
namespace Go.Proofs.YtncmgiddcefpcaaGreatDoor
open Go Go.Ev Go.Con
set_option linter.unusedSimpArgs false
set_option linter.unusedVariables false
set_option maxRecDepth 100000

/-- A list of texts. -/
def strs (l : List ByteArray) : List Value := l.map Value.string
abbrev StrSl (h : Hp) (v : Value) (l : List ByteArray) : Prop := SlAt h 1 v (strs l)

theorem wrap64 {x : Int} (h1 : -9223372036854775808 ≤ x) (h2 : x ≤ 9223372036854775807) : IntKind.i64.wrap x = x := by
  simp [IntKind.wrap, IntKind.signed, IntKind.bits]; omega

theorem StrSl.len {h : Hp} {v : Value} {l : List ByteArray} (s : StrSl h v l) : evLen kon.P 46 v = some (.int .i64 l.length) := by
  rcases s with ⟨rfl, hl⟩ | ⟨b, o, k, c, all, rfl, h2, h3, h4, h5, h6⟩
  · have : l = [] := by simpa [strs] using hl
    subst this
    exact evLen_slice (e := 9) (by kernel_rfl)
  · have : l.length = k := by simpa [strs] using h5
    subst this
    exact evLen_slice (e := 9) (by kernel_rfl)

theorem StrSl.at {h : Hp} {v : Value} {l : List ByteArray} (s : StrSl h v l) {i : Nat} {x : ByteArray} (hi : l[i]? = some x) : ∃ p, evIndexAddr kon.P 46 v (.int .i64 i) = some p ∧ evLoad kon.P 9 p h = some (.string x) := by
  have hlt : i < l.length := (List.getElem?_eq_some_iff.1 hi).1
  rcases s with ⟨rfl, hl⟩ | ⟨b, o, k, c, all, rfl, h2, h3, h4, h5, h6⟩
  · have : l = [] := by simpa [strs] using hl
    subst this; simp at hlt
  · have hk : l.length = k := by simpa [strs] using h5
    subst hk
    refine ⟨_, L_indexAddr (C := kon) (t := 46) (e := 9) (n := 1) (by kernel_rfl) (by kernel_rfl) b o l.length c .i64 i (by omega) (by omega), ?_⟩
    rw [L_loadC (C := kon) (t := 9) (by kernel_rfl), h4]
    simp only [Option.bind_some, cellAt, Int.toNat_natCast, Nat.mul_one]
    have : (strs l)[i]? = some (.string x) := by simp [strs, hi]
    rw [← h6, List.getElem?_take, if_pos (by omega), List.getElem?_drop] at this
    exact this

theorem byteAt_get {s : ByteArray} {i : Nat} (h : i < s.size) : s.data.toList[i]? = some (byteAt s i) := by
  unfold byteAt
  have : i < s.data.toList.length := by rw [Array.length_toList]; exact h
  rw [List.getD_eq_getElem?_getD, List.getElem?_eq_getElem this]; rfl
theorem plainB_false {s : ByteArray} {m i : Nat} (h : i < s.size) (hs : signB (byteAt s i) = false) : plainB s m = false := by
  unfold plainB
  have : s.data.toList.all signB = false := by
    rw [Bool.eq_false_iff]; intro hall
    rw [List.all_eq_true] at hall
    have := hall _ (List.mem_of_getElem? (byteAt_get h))
    rw [hs] at this; cases this
  rw [this, Bool.and_false]
theorem ix62 : evIndex kon.P 9 (.string ⟨#[62]⟩) (.int .i64 0) = some (.int .u8 62) := by kernel_rfl
theorem ixAt {s : ByteArray} {i : Nat} (h : i < s.size) : evIndex kon.P 9 (.string s) (.int .i64 i) = some (.int .u8 ((byteAt s i).toNat : Int)) := by
  have := L_index (C := kon) (t := 9) (by kernel_rfl) s .i64 i (by omega) (by omega)
  simpa using this

theorem signs_spec (s : ByteArray) (m : Nat) (mi : Int) (he : mi = (m : Int)) (hm : m ≤ 1000) (h : Hp) : Meets kon 83 [.string s, .int .i64 mi] h fun v h' => v = .bool (plainB s m) ∧ h' = h := by
  subst he
  refine Meets.mk rfl (by kernel_rfl) Tryz.func83 rfl (congrArg Array.toList Tryz.results83) ?_
  rcases Bool.eq_false_or_eq_true (decide ((s.size : Int) < 1)) with e1 | e1
  · simp only [evr, nextP_norm, evd, evq, beq_self_eq_true, cond_true, cond_false, reduceIte, Nat.reduceEqDiff, Nat.reduceAdd, Int.reduceBNe, Int.reduceBEq, Int.reduceLT, Int.reduceLE, Int.reduceEq, typs, e1]
    have : ¬ 1 ≤ s.size := by simp at e1; omega
    simp [plainB, this]
  rcases Bool.eq_false_or_eq_true (decide ((m : Int) < s.size)) with e2 | e2
  · simp only [evr, nextP_norm, evd, evq, beq_self_eq_true, cond_true, cond_false, reduceIte, Nat.reduceEqDiff, Nat.reduceAdd, Int.reduceBNe, Int.reduceBEq, Int.reduceLT, Int.reduceLE, Int.reduceEq, typs, e1, e2]
    have : ¬ s.size ≤ m := by simp at e2; omega
    simp [plainB, this]
  simp only [evr, nextP_norm, evd, evq, beq_self_eq_true, cond_true, cond_false, reduceIte, Nat.reduceEqDiff, Nat.reduceAdd, Int.reduceBNe, Int.reduceBEq, Int.reduceLT, Int.reduceLE, Int.reduceEq, typs, e1, e2]
  have h1 : 1 ≤ s.size := by simp at e1; omega
  have h2 : s.size ≤ m := by simp at e2; omega
  refine Wp_loop (fun k fr h' => h' = h ∧ ∃ i : Nat, k = s.size - i ∧ i ≤ s.size ∧ fr.get 0 = some (.string s) ∧ fr.get 16 = some (.int .i64 s.size) ∧ fr.get 17 = some (.int .i64 i) ∧ (s.data.toList.take i).all signB = true) s.size ⟨rfl, 0, rfl, Nat.zero_le _, ?_, ?_, ?_, rfl⟩ ?_
  · simp only [evr, nextP_norm, evd, evq, beq_self_eq_true, cond_true, cond_false, reduceIte, Nat.reduceEqDiff, Nat.reduceAdd, Int.reduceBNe, Int.reduceBEq, Int.reduceLT, Int.reduceLE, Int.reduceEq, typs]
  · simp only [evr, nextP_norm, evd, evq, beq_self_eq_true, cond_true, cond_false, reduceIte, Nat.reduceEqDiff, Nat.reduceAdd, Int.reduceBNe, Int.reduceBEq, Int.reduceLT, Int.reduceLE, Int.reduceEq, typs]
  · simp only [evr, nextP_norm, evd, evq, beq_self_eq_true, cond_true, cond_false, reduceIte, Nat.reduceEqDiff, Nat.reduceAdd, Int.reduceBNe, Int.reduceBEq, Int.reduceLT, Int.reduceLE, Int.reduceEq, typs]
    rfl
  rintro k fr h' ⟨rfl, i, rfl, hi, g0, g16, g17, hp⟩
  by_cases h3 : i < s.size
  · have e3 : decide ((i : Int) < s.size) = true := by simp; omega
    have hx := ixAt h3
    simp only [evr, nextP_norm, evd, evq, beq_self_eq_true, cond_true, cond_false, reduceIte, Nat.reduceEqDiff, Nat.reduceAdd, Int.reduceBNe, Int.reduceBEq, Int.reduceLT, Int.reduceLE, Int.reduceEq, typs, g0, g16, g17, e3]
    refine Eq.mpr (Wp_drawOrd (KR.mk (by kernel_rfl))) ?_
    cases hb : signB (byteAt s i) with
    | false =>
      have hf := plainB_false (m := m) h3 hb
      rcases Bool.eq_false_or_eq_true (decide (((byteAt s i).toNat : Int) < 33)) with e4 | e4
      · simp only [evr, nextP_norm, evd, evq, beq_self_eq_true, cond_true, cond_false, reduceIte, Nat.reduceEqDiff, Nat.reduceAdd, Int.reduceBNe, Int.reduceBEq, Int.reduceLT, Int.reduceLE, Int.reduceEq, typs, g0, g16, g17, hx, ix62, e4]
        rw [hf]
      rcases Bool.eq_false_or_eq_true (decide ((126 : Int) < ((byteAt s i).toNat : Int))) with e5 | e5
      · simp only [evr, nextP_norm, evd, evq, beq_self_eq_true, cond_true, cond_false, reduceIte, Nat.reduceEqDiff, Nat.reduceAdd, Int.reduceBNe, Int.reduceBEq, Int.reduceLT, Int.reduceLE, Int.reduceEq, typs, g0, g16, g17, hx, ix62, e4, e5]
        rw [hf]
      have e6 : (((byteAt s i).toNat : Int) == 62) = true := by
        simp [signB] at hb e4 e5 ⊢; omega
      simp only [evr, nextP_norm, evd, evq, beq_self_eq_true, cond_true, cond_false, reduceIte, Nat.reduceEqDiff, Nat.reduceAdd, Int.reduceBNe, Int.reduceBEq, Int.reduceLT, Int.reduceLE, Int.reduceEq, typs, g0, g16, g17, hx, ix62, e4, e5, e6]
      rw [hf]
    | true =>
      have ⟨e4, e5, e6⟩ : decide (((byteAt s i).toNat : Int) < 33) = false ∧ decide ((126 : Int) < ((byteAt s i).toNat : Int)) = false ∧ (((byteAt s i).toNat : Int) == 62) = false := by
        simp [signB] at hb ⊢; omega
      simp only [evr, nextP_norm, evd, evq, beq_self_eq_true, cond_true, cond_false, reduceIte, Nat.reduceEqDiff, Nat.reduceAdd, Int.reduceBNe, Int.reduceBEq, Int.reduceLT, Int.reduceLE, Int.reduceEq, typs, g0, g16, g17, hx, ix62, e4, e5, e6, wrap64 (x := (i : Int) + 1) (by omega) (by omega)]
      refine ⟨s.size - (i + 1), by omega, i + 1, rfl, by omega, rfl, ?_⟩
      rw [List.take_add_one, byteAt_get h3, List.all_append, hp]
      simp [hb]
  · have e3 : decide ((i : Int) < s.size) = false := by simp; omega
    simp only [evr, nextP_norm, evd, evq, beq_self_eq_true, cond_true, cond_false, reduceIte, Nat.reduceEqDiff, Nat.reduceAdd, Int.reduceBNe, Int.reduceBEq, Int.reduceLT, Int.reduceLE, Int.reduceEq, typs, g0, g16, g17, e3]
    have : i = s.data.toList.length := by rw [Array.length_toList]; exact (show i = s.size by omega)
    rw [List.take_of_length_le (by omega)] at hp
    simp [plainB, h1, h2, hp]
theorem may_spec (s : ByteArray) (h : Hp) : Meets kon 51 [.string s] h fun v h' => v = .bool (mayN s) ∧ h' = h := by
  refine Meets.mk rfl (by kernel_rfl) Tryz.func51 rfl (congrArg Array.toList Tryz.results51) ?_
  simp only [evr, nextP_norm, evd, evq, beq_self_eq_true, cond_true, cond_false, reduceIte, Nat.reduceEqDiff, Nat.reduceAdd, Int.reduceBNe, Int.reduceBEq, Int.reduceLT, Int.reduceLE, Int.reduceEq, typs, (signs_spec s 32 32 rfl (by omega) h).call]
theorem user_spec (s : ByteArray) (h : Hp) : Meets kon 109 [.string s] h fun v h' => v = .bool (mayU s) ∧ h' = h := by
  refine Meets.mk rfl (by kernel_rfl) Tryz.func109 rfl (congrArg Array.toList Tryz.results109) ?_
  simp only [evr, nextP_norm, evd, evq, beq_self_eq_true, cond_true, cond_false, reduceIte, Nat.reduceEqDiff, Nat.reduceAdd, Int.reduceBNe, Int.reduceBEq, Int.reduceLT, Int.reduceLE, Int.reduceEq, typs, (signs_spec s 16 16 rfl (by omega) h).call]

theorem plain_spec (s : ByteArray) (m : Nat) (mi : Int) (he : mi = (m : Int)) (hm : m ≤ 1000) (h : Hp) : Meets kon 103 [.string s, .int .i64 mi] h fun v h' => v = .bool (plainB s m) ∧ h' = h := by
  subst he
  refine Meets.mk rfl (by kernel_rfl) Tryz.func103 rfl (congrArg Array.toList Tryz.results103) ?_
  rcases Bool.eq_false_or_eq_true (decide ((s.size : Int) < 1)) with e1 | e1
  · simp only [evr, nextP_norm, evd, evq, beq_self_eq_true, cond_true, cond_false, reduceIte, Nat.reduceEqDiff, Nat.reduceAdd, Int.reduceBNe, Int.reduceBEq, Int.reduceLT, Int.reduceLE, Int.reduceEq, typs, e1]
    have : ¬ 1 ≤ s.size := by simp at e1; omega
    simp [plainB, this]
  rcases Bool.eq_false_or_eq_true (decide ((m : Int) < s.size)) with e2 | e2
  · simp only [evr, nextP_norm, evd, evq, beq_self_eq_true, cond_true, cond_false, reduceIte, Nat.reduceEqDiff, Nat.reduceAdd, Int.reduceBNe, Int.reduceBEq, Int.reduceLT, Int.reduceLE, Int.reduceEq, typs, e1, e2]
    have : ¬ s.size ≤ m := by simp at e2; omega
    simp [plainB, this]
  simp only [evr, nextP_norm, evd, evq, beq_self_eq_true, cond_true, cond_false, reduceIte, Nat.reduceEqDiff, Nat.reduceAdd, Int.reduceBNe, Int.reduceBEq, Int.reduceLT, Int.reduceLE, Int.reduceEq, typs, e1, e2]
  have h1 : 1 ≤ s.size := by simp at e1; omega
  have h2 : s.size ≤ m := by simp at e2; omega
  refine Wp_loop (fun k fr h' => h' = h ∧ ∃ i : Nat, k = s.size - i ∧ i ≤ s.size ∧ fr.get 0 = some (.string s) ∧ fr.get 5 = some (.int .i64 i) ∧ (s.data.toList.take i).all signB = true) s.size ⟨rfl, 0, rfl, Nat.zero_le _, ?_, ?_, rfl⟩ ?_
  · simp only [evr, nextP_norm, evd, evq, beq_self_eq_true, cond_true, cond_false, reduceIte, Nat.reduceEqDiff, Nat.reduceAdd, Int.reduceBNe, Int.reduceBEq, Int.reduceLT, Int.reduceLE, Int.reduceEq, typs]
  · simp only [evr, nextP_norm, evd, evq, beq_self_eq_true, cond_true, cond_false, reduceIte, Nat.reduceEqDiff, Nat.reduceAdd, Int.reduceBNe, Int.reduceBEq, Int.reduceLT, Int.reduceLE, Int.reduceEq, typs]
    rfl
  rintro k fr h' ⟨rfl, i, rfl, hi, g0, g5, hp⟩
  by_cases h3 : i < s.size
  · have e3 : decide ((i : Int) < s.size) = true := by simp; omega
    have hx := ixAt h3
    cases hb : signB (byteAt s i) with
    | false =>
      have hf := plainB_false (m := m) h3 hb
      rcases Bool.eq_false_or_eq_true (decide (((byteAt s i).toNat : Int) < 33)) with e4 | e4
      · simp only [evr, nextP_norm, evd, evq, beq_self_eq_true, cond_true, cond_false, reduceIte, Nat.reduceEqDiff, Nat.reduceAdd, Int.reduceBNe, Int.reduceBEq, Int.reduceLT, Int.reduceLE, Int.reduceEq, typs, g0, g5, e3, hx, e4]
        rw [hf]
      rcases Bool.eq_false_or_eq_true (decide ((126 : Int) < ((byteAt s i).toNat : Int))) with e5 | e5
      · simp only [evr, nextP_norm, evd, evq, beq_self_eq_true, cond_true, cond_false, reduceIte, Nat.reduceEqDiff, Nat.reduceAdd, Int.reduceBNe, Int.reduceBEq, Int.reduceLT, Int.reduceLE, Int.reduceEq, typs, g0, g5, e3, hx, e4, e5]
        rw [hf]
      have e6 : (((byteAt s i).toNat : Int) == 62) = true := by
        simp [signB] at hb e4 e5 ⊢; omega
      simp only [evr, nextP_norm, evd, evq, beq_self_eq_true, cond_true, cond_false, reduceIte, Nat.reduceEqDiff, Nat.reduceAdd, Int.reduceBNe, Int.reduceBEq, Int.reduceLT, Int.reduceLE, Int.reduceEq, typs, g0, g5, e3, hx, e4, e5, e6]
      rw [hf]
    | true =>
      have ⟨e4, e5, e6⟩ : decide (((byteAt s i).toNat : Int) < 33) = false ∧ decide ((126 : Int) < ((byteAt s i).toNat : Int)) = false ∧ (((byteAt s i).toNat : Int) == 62) = false := by
        simp [signB] at hb ⊢; omega
      simp only [evr, nextP_norm, evd, evq, beq_self_eq_true, cond_true, cond_false, reduceIte, Nat.reduceEqDiff, Nat.reduceAdd, Int.reduceBNe, Int.reduceBEq, Int.reduceLT, Int.reduceLE, Int.reduceEq, typs, g0, g5, e3, hx, e4, e5, e6, wrap64 (x := (i : Int) + 1) (by omega) (by omega)]
      refine ⟨s.size - (i + 1), by omega, i + 1, rfl, by omega, rfl, ?_⟩
      rw [List.take_add_one, byteAt_get h3, List.all_append, hp]
      simp [hb]
  · have e3 : decide ((i : Int) < s.size) = false := by simp; omega
    simp only [evr, nextP_norm, evd, evq, beq_self_eq_true, cond_true, cond_false, reduceIte, Nat.reduceEqDiff, Nat.reduceAdd, Int.reduceBNe, Int.reduceBEq, Int.reduceLT, Int.reduceLE, Int.reduceEq, typs, g0, g5, e3]
    have : i = s.data.toList.length := by rw [Array.length_toList]; exact (show i = s.size by omega)
    rw [List.take_of_length_le (by omega)] at hp
    simp [plainB, h1, h2, hp]
theorem nameMay_spec (s : ByteArray) (h : Hp) : Meets kon 79 [.string s] h fun v h' => v = .bool (mayN s) ∧ h' = h := by
  refine Meets.mk rfl (by kernel_rfl) Tryz.func79 rfl (congrArg Array.toList Tryz.results79) ?_
  simp only [evr, nextP_norm, evd, evq, beq_self_eq_true, cond_true, cond_false, reduceIte, Nat.reduceEqDiff, Nat.reduceAdd, Int.reduceBNe, Int.reduceBEq, Int.reduceLT, Int.reduceLE, Int.reduceEq, typs, (plain_spec s 32 32 rfl (by omega) h).call]
theorem userMay_spec (s : ByteArray) (h : Hp) : Meets kon 108 [.string s] h fun v h' => v = .bool (mayU s) ∧ h' = h := by
  refine Meets.mk rfl (by kernel_rfl) Tryz.func108 rfl (congrArg Array.toList Tryz.results108) ?_
  simp only [evr, nextP_norm, evd, evq, beq_self_eq_true, cond_true, cond_false, reduceIte, Nat.reduceEqDiff, Nat.reduceAdd, Int.reduceBNe, Int.reduceBEq, Int.reduceLT, Int.reduceLE, Int.reduceEq, typs, (plain_spec s 16 16 rfl (by omega) h).call]
end Go.Proofs.YtncmgiddcefpcaaGreatDoor
