/- names: Join and Parent, the reference's Split and Join, and the law's comparison of two lists of texts. -/
import Derived.Test.YtncmgiddcefpcaaGreatDoorConC
namespace Go.Proofs.YtncmgiddcefpcaaGreatDoor
open Go Go.Ev Go.Con
set_option linter.unusedSimpArgs false
set_option linter.unusedVariables false
set_option maxRecDepth 100000

theorem strs_app (a b : List ByteArray) : strs (a ++ b) = strs a ++ strs b := by simp [strs]
theorem strs_len (a : List ByteArray) : (strs a).length = a.length := by simp [strs]
theorem strs_cell (a : List ByteArray) : (strs a).all isCell = true := by rw [List.all_eq_true]; intro x hx; simp only [strs, List.mem_map] at hx; obtain ⟨s, _, rfl⟩ := hx; rfl
abbrev StrGr (h0 : Nat) (h : Hp) (v : Value) (l : List ByteArray) : Prop := Grown h0 h v 9 1 (strs l)

theorem app_str {h0 : Nat} {h : Hp} {v x : Value} {ps qs : List ByteArray} (g : StrGr h0 h v ps) (hh : h0 ≤ h.next) (hx : StrSl h x qs) (hq : 1 ≤ qs.length) (hb : ps.length + qs.length ≤ 1000000000) :
    ∃ v' h', evAppend kon.P 46 v x h = some (v', h') ∧ StrGr h0 h' v' (ps ++ qs) ∧ Kept h0 h h' := by
  obtain ⟨k, h1, h2, h3⟩ := hx.cells
  have hk : k = qs.length := by rw [strs_len] at h3; omega
  subst hk
  unfold StrGr
  rw [strs_app]
  exact append_grown (e := 9) (n := 1) (by_ := 16) (z := .string ByteArray.empty) (by kernel_rfl) (by kernel_rfl) (by kernel_rfl) (by kernel_rfl) (by kernel_rfl) (Nat.le_refl _) g hh h1 h2 hq h3 (strs_cell _)
    (by rw [strs_len]; exact Nat.le_trans (Nat.mul_le_mul_right 17 (show _ ≤ 2000001024 by omega)) (by decide))

theorem StrGr.put {h0 : Nat} {h : Hp} {v : Value} {ps : List ByteArray} (g : StrGr h0 h v ps) {i : Nat} (hi : i < ps.length) :
    ∃ p, evIndexAddr kon.P 46 v (.int .i64 i) = some p ∧ evLoad kon.P 9 p h = some (.string ps[i]) ∧ ∀ x, ∃ h', evStore kon.P 9 p (.string x) h = some h' ∧ StrGr h0 h' v (ps.set i x) ∧ Kept h0 h h' := by
  obtain ⟨p, h1, h2⟩ := StrSl.at g.slAt (List.getElem?_eq_getElem hi)
  refine ⟨p, h1, h2, fun x => ?_⟩
  rcases id g with ⟨_, hn⟩ | ⟨b, k, base, olds, y, rfl, hy, hk, hk1, hb, hg, hbase, hb0, holds⟩
  · have : (strs ps).length = 0 := by rw [hn]; rfl
    rw [strs_len] at this; omega
  · have hk2 : ps.length = k := by rw [strs_len] at hk; omega
    have h3 := L_indexAddr (C := kon) (t := 46) (e := 9) (n := 1) (by kernel_rfl) (by kernel_rfl) b 0 k (2 * k + y) .i64 i (by omega) (by omega)
    rw [h3] at h1
    simp only [Option.some.injEq] at h1
    subst h1
    have h4 := L_store (C := kon) (t := 9) (n := 1) (by kernel_rfl) b (0 + (i : Int).toNat * 1) (.string x) h
    obtain ⟨h', h5, h6, h7⟩ := write_grown g (o := 0 + (i : Int).toNat * 1) (vs := [.string x]) (by rw [strs_len]; simp; omega) rfl
    refine ⟨h', ?_, ?_, h7⟩
    · rw [h4]; exact h5
    · have : splice (strs ps) (0 + (i : Int).toNat * 1) [.string x] = strs (ps.set i x) := by
        simp only [Int.toNat_natCast, Nat.zero_add, Nat.mul_one, splice, strs, List.length_singleton, List.map_set]
        rw [List.set_eq_take_append_cons_drop, if_pos (by simpa using hi)]
        simp
      rw [this] at h6; exact h6

/-! ### strings.Join -/
def inter (ps : List ByteArray) : List UInt8 := [62].intercalate (ps.map (·.data.toList))
theorem strsOf_strs : ∀ ps : List ByteArray, strsOf (strs ps) = some ps
  | [] => rfl
  | p :: ps => by show (strsOf (strs ps)).map (p :: ·) = _; rw [strsOf_strs ps]; rfl
theorem inter_len_one (p : ByteArray) : inter [p] = p.data.toList := by simp [inter, List.intercalate]
theorem inter_cons (p q : ByteArray) (ps : List ByteArray) : inter (p :: q :: ps) = p.data.toList ++ 62 :: inter (q :: ps) := by simp [inter, List.intercalate]
/-- Parts that are a path's. -/
theorem inter_le {ps : List ByteArray} (h : ps.all mayN = true) : (inter ps).length ≤ 33 * ps.length := by
  have one : ∀ p : ByteArray, mayN p = true → p.data.toList.length ≤ 32 := fun p hp => by
    simp only [mayN, plainB, Bool.and_eq_true, decide_eq_true_eq] at hp
    rw [← size_eq]; exact hp.1.2
  induction ps with
  | nil => simp [inter, List.intercalate]
  | cons p ps ih =>
    simp only [List.all_cons, Bool.and_eq_true] at h
    have h1 := one p h.1
    have h1' : p.size ≤ 32 := by rw [size_eq]; exact h1
    cases ps with
    | nil => rw [inter_len_one]; simp; omega
    | cons q ps => rw [inter_cons]; have := ih h.2; simp at this ⊢; omega

/-- A part of a slice, from its front. -/
theorem StrSl.front {h : Hp} {v : Value} {ps : List ByteArray} (s : StrSl h v ps) {n : Nat} (hn : n ≤ ps.length) : ∃ u, evSlice kon.P 46 v none (some (.int .i64 n)) none = some u ∧ StrSl h u (ps.take n) := by
  rcases s with ⟨rfl, hp⟩ | ⟨b, o, k, c, all, rfl, h2, h3, h4, h5, h6⟩
  · have : ps = [] := by simpa [strs] using hp
    subst this
    have : n = 0 := by simpa using hn
    subst this
    exact ⟨_, by kernel_rfl, .inl ⟨rfl, rfl⟩⟩
  · have hk : ps.length = k := by rw [strs_len] at h5; omega
    subst hk
    refine ⟨_, (L_sliceSl (C := kon) (t := 46) (e := 9) (n := 1) (by kernel_rfl) (by kernel_rfl)).2.2 b o ps.length c .i64 n (by omega) (by omega) h2, .inr ⟨b, o, n, c, all, by rw [Int.toNat_natCast], by omega, h3, h4, by rw [strs_len, List.length_take]; omega, ?_⟩⟩
    have : strs (ps.take n) = (strs ps).take n := by simp [strs]
    rw [this, ← h6, List.take_take, Nat.mul_one, Nat.mul_one, Nat.min_eq_left hn]

/-- What Parent returns. -/
def ParentP (s : ByteArray) (h : Hp) (v : Value) (h' : Hp) : Prop := Keep h h' ∧ v = match split s with
  | none => .tuple #[.string ByteArray.empty, .string ByteArray.empty, .int .i64 3]
  | some ps => match ps.getLast? with
    | none => .tuple #[.string ByteArray.empty, .string ByteArray.empty, .int .i64 3]
    | some n => .tuple #[.string (join ps.dropLast), .string n, .int .i64 0]
theorem empty_eq : (⟨#[]⟩ : ByteArray) = ByteArray.empty := rfl


end Go.Proofs.YtncmgiddcefpcaaGreatDoor
