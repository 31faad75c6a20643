/- Texts and path names: the model, in plain lists. No program in sight. -/
import Derived.Lib.Split
import Derived.Lib.Join
namespace Go.Con
open Go
set_option linter.unusedSimpArgs false
set_option linter.unusedVariables false

theorem ba_ext {a b : ByteArray} (h : a.data.toList = b.data.toList) : a = b := by
  cases a; cases b; simp only [ByteArray.mk.injEq]; exact Array.toList_inj.1 h
def ofL (l : List UInt8) : ByteArray := ⟨l.toArray⟩
theorem ofL_data (l : List UInt8) : (ofL l).data.toList = l := rfl
theorem ofL_of (s : ByteArray) : ofL s.data.toList = s := ba_ext rfl
theorem size_eq (s : ByteArray) : s.size = s.data.toList.length := (Array.length_toList (xs := s.data)).symm

def signB (b : UInt8) : Bool := decide (33 ≤ b.toNat) && decide (b.toNat ≤ 126) && !decide (b.toNat = 62)
def plainB (s : ByteArray) (most : Nat) : Bool := decide (1 ≤ s.size) && decide (s.size ≤ most) && s.data.toList.all signB
abbrev mayN (s : ByteArray) : Bool := plainB s 32
abbrev mayU (s : ByteArray) : Bool := plainB s 16

/-- Cut at each stroke. -/
def cut : List UInt8 → List (List UInt8)
  | [] => [[]]
  | c :: l => if c = 62 then [] :: cut l else (c :: (cut l).headD []) :: (cut l).tail
theorem cut_cons (c : UInt8) (l : List UInt8) : cut (c :: l) = if c = 62 then [] :: cut l else (c :: (cut l).headD []) :: (cut l).tail := rfl
theorem cut_ne : ∀ l, cut l ≠ []
  | [] => by simp [cut]
  | c :: l => by unfold cut; split <;> simp
theorem cut_ht (l : List UInt8) : (cut l).headD [] :: (cut l).tail = cut l := by
  have := cut_ne l
  cases h : cut l with
  | nil => exact absurd h this
  | cons a b => rfl

/-- The parts of a path; none: it is no path. -/
def split (s : ByteArray) : Option (List ByteArray) :=
  match s.data.toList with
  | [] => none
  | c :: l => if c = 62 then (if l = [] then some [] else if 168 < s.size then none else if 16 < (cut l).length then none
      else if ((cut l).map ofL).all mayN then some ((cut l).map ofL) else none) else none
/-- Parts, joined. -/
def join (ps : List ByteArray) : ByteArray := ofL (62 :: [62].intercalate (ps.map (·.data.toList)))

theorem index_one (c : UInt8) : ∀ l : List UInt8, Lib.index (c :: l) [62] = if c = 62 then 0 else if Lib.index l [62] = -1 then -1 else Lib.index l [62] + 1 := by
  intro l
  have e : Lib.index (c :: l) [62] = if ([62] : List UInt8).isPrefixOf (c :: l) then 0 else if Lib.index l [62] == -1 then -1 else Lib.index l [62] + 1 := rfl
  rw [e]
  by_cases h : c = 62
  · subst h; simp
  · have : ([62] : List UInt8).isPrefixOf (c :: l) = false := by
      show ((62 : UInt8) == c && _) = false
      rw [show ((62 : UInt8) == c) = false from beq_false_of_ne (Ne.symm h)]; rfl
    rw [this, if_neg (by decide), if_neg h]; simp only [beq_iff_eq]

theorem cut_miss : ∀ l : List UInt8, Lib.index l [62] = -1 → cut l = [l]
  | [], _ => rfl
  | c :: l, h => by
    rw [index_one] at h
    by_cases hc : c = 62
    · rw [if_pos hc] at h; omega
    · rw [if_neg hc] at h
      have h2 : Lib.index l [62] = -1 := by
        by_cases e : Lib.index l [62] = -1
        · exact e
        · rw [if_neg e] at h
          have := Lib.index_ge l [62]
          omega
      rw [cut_cons, if_neg hc, cut_miss l h2]; rfl

theorem cut_hit : ∀ (l : List UInt8) (i : Nat), Lib.index l [62] = i → cut l = l.take i :: cut (l.drop (i + 1))
  | [], i, h => by simp [Lib.index] at h
  | c :: l, i, h => by
    rw [index_one] at h
    by_cases hc : c = 62
    · rw [if_pos hc] at h
      have : i = 0 := by omega
      subst this
      subst hc
      simp [cut]
    · rw [if_neg hc] at h
      by_cases e : Lib.index l [62] = -1
      · rw [if_pos e] at h; omega
      · rw [if_neg e] at h
        have := Lib.index_ge l [62]
        obtain ⟨j, rfl⟩ : ∃ j, i = j + 1 := ⟨i - 1, by omega⟩
        rw [cut_cons, if_neg hc, cut_hit l j (by omega)]; simp

theorem splitK_cut : ∀ (n : Nat) (l : List UInt8), Lib.count l [62] = n → Lib.splitK [62] 0 n l = cut l
  | 0, l, h => by
    unfold Lib.splitK
    refine (cut_miss l ?_).symm
    refine Decidable.byContradiction fun hn => ?_
    have hg := Lib.index_ge l [62]
    obtain ⟨i, hi⟩ : ∃ i : Nat, Lib.index l [62] = i := ⟨(Lib.index l [62]).toNat, by omega⟩
    rw [Lib.count_hit (by simp) hi] at h; omega
  | n + 1, l, h => by
    unfold Lib.splitK
    by_cases hm : Lib.index l [62] = -1
    · rw [if_pos (beq_iff_eq.2 hm), cut_miss l hm]
    · rw [if_neg (fun e => hm (beq_iff_eq.1 e))]
      have hg := Lib.index_ge l [62]
      obtain ⟨i, hi⟩ : ∃ i : Nat, Lib.index l [62] = i := ⟨(Lib.index l [62]).toNat, by omega⟩
      rw [Lib.count_hit (by simp) hi] at h
      have e : (Lib.index l [62]).toNat = i := by omega
      rw [cut_hit l i hi, e]
      simp only [Nat.add_zero, List.length_singleton]
      simp only [List.length_singleton] at h
      rw [splitK_cut n _ (by omega)]

/-- What strings.Split gives at the stroke. -/
theorem splitB_cut (s : ByteArray) : Lib.splitB (ofL [62]) 0 (Lib.countB s (ofL [62])) s = (cut s.data.toList).map ofL := by
  have h := Lib.splitB_data (ofL [62]) 0 (Lib.countB s (ofL [62])) s
  have h2 : Lib.splitK [62] 0 (Lib.countB s (ofL [62])) s.data.toList = cut s.data.toList := splitK_cut _ _ rfl
  rw [show (ofL [62]).data.toList = [62] from rfl, h2] at h
  rw [← h, List.map_map]
  have : (ofL ∘ fun x : ByteArray => x.data.toList) = id := by funext x; exact ofL_of x
  rw [this, List.map_id]

theorem cut_join : ∀ l : List UInt8, [62].intercalate (cut l) = l
  | [] => rfl
  | c :: l => by
    have ih := cut_join l
    have hne := cut_ne l
    unfold cut
    cases h : cut l with
    | nil => exact absurd h hne
    | cons a b =>
      rw [h] at ih
      by_cases hc : c = 62
      · rw [if_pos hc]
        subst hc
        have : [62].intercalate ([] :: a :: b) = 62 :: [62].intercalate (a :: b) := by simp [List.intercalate]
        rw [this, ih]
      · rw [if_neg hc]
        simp only [List.headD_cons, List.tail_cons]
        have : [62].intercalate ((c :: a) :: b) = c :: [62].intercalate (a :: b) := by cases b <;> simp [List.intercalate]
        rw [this, ih]

theorem join_cut : ∀ (x : List UInt8) (xs : List (List UInt8)), (∀ y ∈ x :: xs, (62 : UInt8) ∉ y) → cut ([62].intercalate (x :: xs)) = x :: xs
  | [], [], _ => rfl
  | c :: x, [], h => by
    have h1 : c ≠ 62 := fun e => h (c :: x) (by simp) (by simp [e])
    have ih := join_cut x [] (fun y hy => by simp at hy; subst hy; intro hm; exact h (c :: y) (by simp) (List.mem_cons_of_mem _ hm))
    have : [62].intercalate [c :: x] = c :: [62].intercalate [x] := by simp [List.intercalate]
    rw [this]; rw [cut_cons, if_neg h1, ih]; rfl
  | [], y :: xs, h => by
    have ih := join_cut y xs (fun z hz => h z (List.mem_cons_of_mem _ hz))
    have : [62].intercalate ([] :: y :: xs) = 62 :: [62].intercalate (y :: xs) := by simp [List.intercalate]
    rw [this]; rw [cut_cons, if_pos rfl, ih]
  | c :: x, y :: xs, h => by
    have h1 : c ≠ 62 := fun e => h (c :: x) (by simp) (by simp [e])
    have ih := join_cut x (y :: xs) (fun z hz => by
      rcases List.mem_cons.1 hz with rfl | hz
      · intro hm; exact h (c :: z) (by simp) (List.mem_cons_of_mem _ hm)
      · exact h z (List.mem_cons_of_mem _ hz))
    have : [62].intercalate ((c :: x) :: y :: xs) = c :: [62].intercalate (x :: y :: xs) := by simp [List.intercalate]
    rw [this]; rw [cut_cons, if_neg h1, ih]; rfl

theorem may_no {s : ByteArray} {n : Nat} (h : plainB s n = true) : (62 : UInt8) ∉ s.data.toList := by
  intro hm
  unfold plainB at h
  simp only [Bool.and_eq_true, List.all_eq_true] at h
  have := h.2 _ hm
  simp [signB] at this

theorem map_data (l : List (List UInt8)) : (l.map ofL).map (fun x => x.data.toList) = l := by
  rw [List.map_map]
  have : ((fun x : ByteArray => x.data.toList) ∘ ofL) = id := by funext x; rfl
  rw [this, List.map_id]

theorem split_join {s : ByteArray} {ps : List ByteArray} (h : split s = some ps) : join ps = s := by
  unfold split at h
  split at h
  · cases h
  · rename_i c l hs
    split at h
    · rename_i hc
      subst hc
      split at h
      · rename_i hl
        subst hl
        cases h
        exact ba_ext hs.symm
      · split at h
        · cases h
        · split at h
          · cases h
          · split at h
            · cases h
              unfold join
              rw [map_data, cut_join]
              exact ba_ext hs.symm
            · cases h
    · cases h
theorem split_all {s : ByteArray} {ps : List ByteArray} (h : split s = some ps) : ps.all mayN = true ∧ ps.length ≤ 16 ∧ (ps = [] → s = ofL [62]) ∧ s.size ≤ 168 := by
  unfold split at h
  split at h
  · cases h
  · rename_i c l hs
    have hz : s.size = l.length + 1 := by rw [size_eq, hs]; rfl
    split at h
    · rename_i hc
      subst hc
      split at h
      · rename_i hl
        subst hl
        cases h
        exact ⟨rfl, by simp, fun _ => ba_ext hs, by simp at hz; omega⟩
      · split at h
        · cases h
        · split at h
          · cases h
          · split at h
            · rename_i ha
              cases h
              refine ⟨ha, by rw [List.length_map]; omega, fun e => absurd (List.map_eq_nil_iff.1 e) (cut_ne _), by omega⟩
            · cases h
    · cases h
end Go.Con
