/- RulesKinds: true at every input. -/
import Derived.Test.YtncmgiddcefpcaaDoorConYa
import Derived.Test.YtncmgiddcefpcaaDoorConYb
import Derived.Test.YtncmgiddcefpcaaDoorConYc
import Derived.Test.YtncmgiddcefpcaaDoorConYd
import Derived.Test.YtncmgiddcefpcaaDoorConZ
namespace Go.Proofs.YtncmgiddcefpcaaDoor
open Go Go.Ev Go.RowKit
set_option linter.unusedSimpArgs false
set_option linter.unusedVariables false
set_option maxRecDepth 1000000
theorem kinds_all (a b c : Bool) : kindsP a b c := by
  cases a <;> cases b <;> cases c
  · exact kinds_000
  · exact kinds_001
  · exact kinds_010
  · exact kinds_011
  · exact kinds_100
  · exact kinds_101
  · exact kinds_110
  · exact kinds_111
theorem rd_bools3 {W : World} {cs : List Value} (h : RdT Tryd.prog W 78 cs) : ∃ a b c, cs = [.bool a, .bool b, .bool c] := by
  have c1 : Tryd.prog.cellsOf 4 = 1 := by kernel_rfl
  have c3 : Tryd.prog.cellsOf 78 = 3 := by kernel_rfl
  obtain ⟨hl, hi⟩ := h.array Tryd.underlying78
  rw [c3] at hl
  match cs, hl with
  | [x, y, z], _ =>
    have h0 := hi 0 (by omega)
    have h1 := hi 1 (by omega)
    have h2 := hi 2 (by omega)
    rw [c1] at h0 h1 h2
    obtain ⟨a, ha⟩ := h0.bool Tryd.underlying4
    obtain ⟨b, hb⟩ := h1.bool Tryd.underlying4
    obtain ⟨c, hc⟩ := h2.bool Tryd.underlying4
    cases ha; cases hb; cases hc
    exact ⟨a, b, c, rfl⟩
theorem rulesKinds_law (W : World) (h : W.ShapedOpen Tryd.prog) {base : Nat} {v0 v1 : Value} (o0 : Value.okWide Tryd.prog W .any base 78 v0) (r0 : RdT Tryd.prog W 78 v0.cells.toList)
    (o1 : Value.okWide Tryd.prog W .any base 5 v1) (r1 : RdT Tryd.prog W 5 v1.cells.toList) :
    Calls Tryd.prog 13 #[v0, v1] W fun e w' => e = .returned (.bool true) ∧ Below W.heap.size W w' := by
  obtain ⟨cs, rfl⟩ := okArr Tryd.underlying78 o0
  obtain ⟨a, b, c, hc⟩ := rd_bools3 r0
  have hc : cs.toList = _ := hc
  obtain ⟨n, rfl⟩ := okInt Tryd.underlying5 o1
  obtain ⟨d, hd⟩ := rd_u8 r1
  have hd : [Value.int .u8 n] = [.int .u8 (d.toNat : Int)] := hd
  simp only [List.cons.injEq, Value.int.injEq, true_and, and_true] at hd
  subst hd
  rw [agg_of hc]
  exact closed_meets (args := [.agg #[.bool a, .bool b, .bool c], .int .u8 d.toNat]) (kon_from0 h) kon_mix rfl (kinds_true kinds_all a b c d)
end Go.Proofs.YtncmgiddcefpcaaDoor
