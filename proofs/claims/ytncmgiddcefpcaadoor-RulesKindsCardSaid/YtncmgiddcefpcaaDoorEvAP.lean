/- Ev: slices that are read, and slices that grow. -/
import Derived.Test.YtncmgiddcefpcaaDoorEvDr
namespace Go.Ev
open Go
set_option linter.unusedSimpArgs false
set_option linter.unusedVariables false

/-! ### a slice that is read -/
/-- The slice holds these cells (n of them to an element). -/
def SlAt (h : Hp) (n : Nat) (v : Value) (cs : List Value) : Prop :=
  (v = .slice none 0 0 ∧ cs = []) ∨ ∃ b o k c all, v = .slice (some ⟨b, o, none⟩) k c ∧ k ≤ c / 2 ∧ b < h.next ∧ rowOf h b = some all ∧ cs.length = k * n ∧ (all.drop o).take (k * n) = cs

theorem SlAt.keep {h h' : Hp} {n : Nat} {v : Value} {cs : List Value} (s : SlAt h n v cs) (k : Keep h h') : SlAt h' n v cs := by
  rcases s with s | ⟨b, o, j, c, all, h1, h2, h3, h4, h5, h6⟩
  · exact .inl s
  · exact .inr ⟨b, o, j, c, all, h1, h2, Nat.lt_of_lt_of_le h3 k.1, by rw [k.row h3]; exact h4, h5, h6⟩

theorem SlAt.cells {h : Hp} {n : Nat} {v : Value} {cs : List Value} (s : SlAt h n v cs) : ∃ k, lenOf v = some k ∧ evCells n k v h = some cs ∧ cs.length = k * n := by
  rcases s with ⟨rfl, rfl⟩ | ⟨b, o, j, c, all, rfl, h2, h3, h4, h5, h6⟩
  · exact ⟨0, rfl, rfl, by simp⟩
  · refine ⟨j, rfl, ?_, h5⟩
    unfold evCells
    cases hj : (j * n == 0) with
    | true =>
      have : j * n = 0 := by simpa using hj
      simp only [cond_true]
      rw [this] at h5
      rw [List.length_eq_zero_iff.1 h5]
    | false =>
      simp only [cond_false, h4, Option.bind_some]
      have hl : (all.drop o |>.take (j * n)).length = j * n := by rw [h6, h5]
      have hj0 : j * n ≠ 0 := by simpa using hj
      have : o + j * n ≤ all.length := by simp at hl; omega
      rw [decide_eq_true this]
      simp only [cond_true, h6]

/-- The element at a place. -/
theorem SlAt.elem {h : Hp} {n : Nat} {b o k c : Nat} {cs : List Value} (s : SlAt h n (.slice (some ⟨b, o, none⟩) k c) cs) (hk : 0 < k) : ∃ all, rowOf h b = some all ∧ cs.length = k * n ∧ (all.drop o).take (k * n) = cs := by
  rcases s with ⟨h1, _⟩ | ⟨b', o', k', c', all, h1, h2, h3, h4, h5, h6⟩
  · cases h1
  · cases h1; exact ⟨all, h4, h5, h6⟩

/-! ### a slice that grows -/
/-- A slice that is being made: its block holds these cells and no others, none of its blocks is older than h0. -/
def Grown (h0 : Nat) (h : Hp) (v : Value) (e n : Nat) (cs : List Value) : Prop :=
  (v = .slice none 0 0 ∧ cs = []) ∨ ∃ b k base olds x, v = .slice (some ⟨b, 0, none⟩) k (2 * k + x) ∧ x ≤ 1 ∧ cs.length = k * n ∧ 1 ≤ k ∧ b < h.next ∧ h.get b = some (.row cs e (.rw base olds)) ∧
    base + n ≤ cs.length ∧ h0 ≤ b ∧ ∀ o ∈ olds, h0 ≤ o

theorem Grown.slAt {h0 : Nat} {h : Hp} {v : Value} {e n : Nat} {cs : List Value} (g : Grown h0 h v e n cs) : SlAt h n v cs := by
  rcases g with g | ⟨b, k, base, olds, x, h1, h2, h3, h4, h5, h6, _⟩
  · exact .inl g
  · exact .inr ⟨b, 0, k, 2 * k + x, cs, h1, by omega, h5, rowOf_rw h6, h3, by rw [List.drop_zero, List.take_of_length_le (by omega)]⟩

theorem Grown.keep {h0 : Nat} {h h' : Hp} {v : Value} {e n : Nat} {cs : List Value} (g : Grown h0 h v e n cs) (k : Keep h h') : Grown h0 h' v e n cs := by
  rcases g with g | ⟨b, j, base, olds, x, h1, h2, h3, h4, h5, h6, h7⟩
  · exact .inl g
  · exact .inr ⟨b, j, base, olds, x, h1, h2, h3, h4, Nat.lt_of_lt_of_le h5 k.1, by rw [k.2 b h5]; exact h6, h7⟩

/-- The blocks below h0 are as they were. -/
def Kept (h0 : Nat) (h h' : Hp) : Prop := h.next ≤ h'.next ∧ ∀ c, c < h0 → h'.get c = h.get c
theorem Kept.refl (h0 : Nat) (h : Hp) : Kept h0 h h := ⟨Nat.le_refl _, fun _ _ => rfl⟩
theorem Kept.trans {h0 : Nat} {a b c : Hp} (x : Kept h0 a b) (y : Kept h0 b c) : Kept h0 a c := ⟨Nat.le_trans x.1 y.1, fun k hk => (y.2 k hk).trans (x.2 k hk)⟩
theorem Keep.kept {h0 : Nat} {a b : Hp} (x : Keep a b) (hh : h0 ≤ a.next) : Kept h0 a b := ⟨x.1, fun c hc => x.2 c (by omega)⟩
theorem Kept.keep {a b : Hp} (x : Kept a.next a b) : Keep a b := x

section
variable {P : Program} {t e n by_ : Nat} {z : Value}
theorem append_grown (h1 : tSliceElem P t = some e) (h2 : tSize P e = some n) (h3 : tBytes P e = some by_) (h4 : tZero P e = some z) (h5 : (flat z && Nat.beq z.cells.size n) = true) (hn : 1 ≤ n)
    {h0 : Nat} {h : Hp} {v x : Value} {cs new : List Value} (g : Grown h0 h v e n cs) (hh : h0 ≤ h.next) {j : Nat} (hx : lenOf x = some j) (hc : evCells n j x h = some new) (hj : 1 ≤ j) (hl : new.length = j * n)
    (hcell : new.all isCell = true) (hbig : (2 * (cs.length + j) + 1024) * (by_ + 1) ≤ 2 ^ 47) :
    ∃ v' h', evAppend P t v x h = some (v', h') ∧ Grown h0 h' v' e n (cs ++ new) ∧ Kept h0 h h' := by
  simp only [Bool.and_eq_true] at h5
  have h6 : (z.cells.size == n) = true := by have := Nat.eq_of_beq_eq_true h5.2; simpa using this
  have hj0 : (j == 0) = false := by simp; omega
  have hnl : Nat.beq new.length (j * n) = true := by rw [hl]; simp
  have hle : ∀ k, cs.length = k * n → k ≤ cs.length := fun k hk => by rw [hk]; exact Nat.le_mul_of_pos_right _ (by omega)
  have hbig' : ∀ k, cs.length = k * n → (2 * (k + j) + 1024) * (by_ + 1) ≤ 2 ^ 47 := fun k hk => by
    have h8 := hle k hk
    have h9 := Nat.mul_le_mul_right (by_ + 1) (show 2 * (k + j) + 1024 ≤ 2 * (cs.length + j) + 1024 from Nat.add_le_add_right (Nat.mul_le_mul_left _ (Nat.add_le_add_right h8 _)) _)
    exact Nat.le_trans h9 hbig
  rcases g with ⟨rfl, rfl⟩ | ⟨b, k, base, olds, y, rfl, hy, hk, hk1, hb, hg, hbase, hb0, holds⟩
  · have hb0 := hbig' 0 (by simp)
    refine ⟨.slice (some ⟨h.next, 0, none⟩) j (2 * j + 1), h.push (.row new e (.rw 0 [])), ?_, ?_, (Keep.push _ _).kept hh⟩
    · unfold evAppend
      simp only [h1, h2, h3, h4, hx, Option.bind_some, h6, h5.1, Bool.and_self, Bool.not_true, cond_false, hj0, hc, hcell, decide_eq_true hb0, hnl, Bool.or_self]
      have hd : decide (0 + j ≤ 0 / 2) = false := by simp; omega
      simp only [hd, cond_false, Nat.zero_mod, BEq.rfl, cond_true, Nat.zero_add]
      simp [evCells, show ¬ j = 0 by omega]
    · exact .inr ⟨h.next, j, 0, [], 1, rfl, Nat.le_refl _, by simpa using hl, hj, Nat.lt_succ_self _, Hp.get_push_self _ _, by simp [hl]; exact Nat.le_mul_of_pos_left _ hj, hh, by simp⟩
  · have hb1 := hbig' k hk
    have hrow := rowOf_rw hg
    have hk2 : (2 * k + y) / 2 = k := by omega
    have hd : decide (k + j ≤ (2 * k + y) / 2) = false := by simp; omega
    have hkn : k * n ≠ 0 := by
      have := Nat.mul_pos (show 0 < k by omega) (show 0 < n by omega); omega
    unfold evAppend
    simp only [h1, h2, h3, h4, hx, Option.bind_some, h6, h5.1, Bool.and_self, Bool.not_true, cond_false, hj0, hc, hcell, decide_eq_true hb1, hnl, Bool.or_self, hd]
    have hnew : base + n ≤ (cs ++ new).length ∧ cs.length + n ≤ (cs ++ new).length := by
      rw [List.length_append, hl]
      have : n ≤ j * n := Nat.le_mul_of_pos_left _ hj
      omega
    have hlen : (cs ++ new).length = (k + j) * n := by rw [List.length_append, hl, hk, Nat.add_mul]
    rcases (show y = 0 ∨ y = 1 by omega) with rfl | rfl
    · have hc0 : evCells n k (.slice (some ⟨b, 0, none⟩) k (2 * k + 0)) h = some cs := by
        unfold evCells
        have : (k * n == 0) = false := by simpa using hkn
        simp only [this, cond_false, hrow, Option.bind_some, Nat.zero_add, decide_eq_true (show k * n ≤ cs.length by omega), cond_true, List.drop_zero]
        rw [List.take_of_length_le (by omega)]
      have hm : ((2 * k + 0) % 2 == 0) = true := by simp
      simp only [hm, cond_true, hc0, Option.map_some]
      refine ⟨_, _, rfl, .inr ⟨h.next, k + j, 0, [], 1, rfl, Nat.le_refl _, hlen, by omega, Nat.lt_succ_self _, Hp.get_push_self _ _, by omega, hh, by simp⟩, (Keep.push _ _).kept hh⟩
    · have hm : ((2 * k + 1) % 2 == 0) = false := by rw [show (2 * k + 1) % 2 = 1 by omega]; rfl
      have hcond : (k * n == cs.length && (2 * k + 1) / 2 == k && Nat.beq e e && decide (base ≤ cs.length)) = true := by
        rw [hk, show (2 * k + 1) / 2 = k by omega]
        simp; omega
      simp only [hm, cond_false, hg, hcond, cond_true]
      refine ⟨_, _, rfl, .inr ⟨h.next, k + j, cs.length, b :: olds, 1, rfl, Nat.le_refl _, hlen, by omega, ?_, ?_, hnew.2, hh, ?_⟩, ?_, fun c hc => ?_⟩
      · show h.next < (h.set b _).next + 1
        exact Nat.lt_succ_self _
      · exact Hp.get_push_self (h.set b (.row cs e .ro)) _
      · intro o ho
        rcases List.mem_cons.1 ho with rfl | ho
        · exact hb0
        · exact holds o ho
      · exact Nat.le_succ _
      · rw [Hp.get_push_lt (show c < (h.set b _).next by show c < h.next; omega), Hp.get_set_ne (by omega)]

theorem splice_length {cs vs : List Value} {o : Nat} (h : o + vs.length ≤ cs.length) : (splice cs o vs).length = cs.length := by
  unfold splice; simp only [List.length_append, List.length_take, List.length_drop]; omega

/-- Cells written into a slice that is being made. -/
theorem write_grown {h0 : Nat} {h : Hp} {b k c : Nat} {cs vs : List Value} (g : Grown h0 h (.slice (some ⟨b, 0, none⟩) k c) e n cs) {o : Nat} (ho : o + vs.length ≤ cs.length) (hc : vs.all isCell = true) :
    ∃ h', writeAt h b o vs = some h' ∧ Grown h0 h' (.slice (some ⟨b, 0, none⟩) k c) e n (splice cs o vs) ∧ Kept h0 h h' := by
  rcases g with ⟨h1, _⟩ | ⟨b', k', base, olds, x, h1, hx, hk, hk1, hb, hg, hbase, hb0, holds⟩
  · cases h1
  · cases h1
    unfold writeAt
    simp only [hg, decide_eq_true ho, hc, Bool.and_self, cond_true]
    by_cases hbo : base ≤ o
    · simp only [decide_eq_true hbo, cond_true]
      exact ⟨_, rfl, .inr ⟨b, k, base, olds, x, rfl, hx, by rw [splice_length ho]; exact hk, hk1, hb, Hp.get_set_self _ _ _, by rw [splice_length ho]; exact hbase, hb0, holds⟩, Nat.le_refl _, fun c hc => Hp.get_set_ne (by omega)⟩
    · simp only [decide_eq_false hbo, cond_false]
      refine ⟨_, rfl, .inr ⟨b, k, 0, [], x, rfl, hx, by rw [splice_length ho]; exact hk, hk1, ?_, Hp.get_set_self _ _ _, by rw [splice_length ho]; omega, hb0, by simp⟩, ?_, fun c hc => ?_⟩
      · show b < ((kill h olds).set b _).next
        rw [Hp.next_set, kill_next]; exact hb
      · show h.next ≤ ((kill h olds).set b _).next
        rw [Hp.next_set, kill_next]; exact Nat.le_refl _
      · rw [Hp.get_set_ne (by omega), kill_get, if_neg (fun hm => by have := holds c hm; omega)]
end
end Go.Ev
