/- A hierarchy behind what was there: what is kept. -/
import Derived.Test.YtncmgiddcefpcaaDoorConQ
namespace Go.Proofs.YtncmgiddcefpcaaDoor
open Go Go.Ev Go.Con
set_option linter.unusedSimpArgs false
set_option linter.unusedVariables false
set_option maxRecDepth 100000
/-- The hierarchy has blocks of its own, behind h1; what was there at h1 is as it was. -/
structure TK (h1 h : Hp) (F : Nat → Prop) (T : Hi) (bt : Nat) : Prop where
  t : TreeAt h F T bt
  k : Keep h1 h
  f : ∀ j, F j → h1.next ≤ j
section
variable {h1 h h' : Hp} {F F' : Nat → Prop} {T T' : Hi} {bt : Nat}
theorem TK.keeps (x : TK h1 h F T bt) (k : Keep h h') : TK h1 h' F T bt := ⟨x.t.keeps k, x.k.trans k, x.f⟩
theorem TK.upd (x : TK h1 h F T bt) (u : Upd h F h' F') (t : TreeAt h' F' T' bt) : TK h1 h' F' T' bt := by
  refine ⟨t, ⟨Nat.le_trans x.k.1 u.next, fun j hj => ?_⟩, fun j hj => ?_⟩
  · rw [u.same j (Nat.lt_of_lt_of_le hj x.k.1) fun hf => by have := x.f j hf; omega]
    exact x.k.2 j hj
  · rcases u.own j hj with h2 | h2
    · exact x.f j h2
    · exact Nat.le_trans x.k.1 h2
end
/-- A text of one sign, out of a slice. -/
theorem str_one (n : Int) (H : Hp) : convV kon.P 35 9 (H.push (.row [.int .u8 n] 5 (.rw 0 []))) (.slice (some ⟨H.next, 0, none⟩) 1 2) = some (.string ⟨#[UInt8.ofNat n.toNat]⟩) := by
  refine convV_eq ?_
  have h1 : tSliceElem kon.P 35 = some 5 := by kernel_rfl
  have h2 : kon.P.underlying 5 = some (.int .u8) := by kernel_rfl
  have h3 : tString kon.P 9 = some true := by kernel_rfl
  have hr : rowOf (H.push (.row [.int .u8 n] 5 (.rw 0 []))) H.next = some [.int .u8 n] := by
    rw [row_push_eq rfl]; rfl
  unfold bytesStr
  rw [h1]
  simp only [Option.bind_some, h2, h3]
  have hc : evCells 1 1 (.slice (some ⟨H.next, 0, none⟩) 1 2) (H.push (.row [.int .u8 n] 5 (.rw 0 []))) = some [.int .u8 n] := by
    show (bif 1 * 1 == 0 then some [] else (rowOf _ H.next).bind fun cs => bif decide (0 + 1 * 1 ≤ cs.length) then some ((cs.drop 0).take (1 * 1)) else none) = _
    rw [hr]; rfl
  rw [hc]; rfl
end Go.Proofs.YtncmgiddcefpcaaDoor
