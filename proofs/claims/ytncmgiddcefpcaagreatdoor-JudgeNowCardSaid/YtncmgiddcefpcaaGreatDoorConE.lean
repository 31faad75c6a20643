/- names: the reference's Split and Join, and the law's comparison of two lists of texts. -/
import Derived.Test.YtncmgiddcefpcaaGreatDoorConD
namespace Go.Proofs.YtncmgiddcefpcaaGreatDoor
open Go Go.Ev Go.Con
set_option linter.unusedSimpArgs false
set_option linter.unusedVariables false
set_option maxRecDepth 100000

/-! ### the comparison -/
/-! ### the reference's Join -/
def tailJ (ps : List ByteArray) : List UInt8 := (ps.map (62 :: ·.data.toList)).flatten
theorem tailJ_take {ps : List ByteArray} {i : Nat} {x : ByteArray} (h : ps[i]? = some x) : tailJ (ps.take (i + 1)) = tailJ (ps.take i) ++ 62 :: x.data.toList := by
  unfold tailJ; rw [List.take_add_one, h]; simp
theorem tailJ_inter : ∀ (p : ByteArray) (ps : List ByteArray), tailJ (p :: ps) = 62 :: inter (p :: ps)
  | p, [] => by simp [tailJ, inter_len_one]
  | p, q :: ps => by rw [inter_cons]; have := tailJ_inter q ps; simp only [tailJ, List.map_cons, List.flatten_cons] at this ⊢; rw [this]; rfl
theorem tailJ_le (ps : List ByteArray) (i : Nat) : (tailJ (ps.take i)).length ≤ (tailJ ps).length := by
  unfold tailJ
  conv => rhs; rw [← List.take_append_drop i ps]
  rw [List.map_append, List.flatten_append, List.length_append]; omega

end Go.Proofs.YtncmgiddcefpcaaGreatDoor
