/- TreeHands: by evaluation at each of the eight flags. -/
import Derived.Test.YtncmgiddcefpcaaDoorCtx
import Derived.Test.YtncmgiddcefpcaaDoorEvRd
namespace Go.Proofs.YtncmgiddcefpcaaDoor
open Go Go.Ev Go.RowKit
set_option linter.unusedSimpArgs false
set_option linter.unusedVariables false
set_option maxRecDepth 1000000

theorem okAgg {P : Program} {W : World} {r : Reach} {base : Nat} {t : TypeId} {v : Value} {fs : Array Field} (ht : P.underlying t = some (.struct fs)) (h : Value.okWide P W r base t v) : ∃ cs, v = .agg cs := by
  unfold Value.okWide at h; rw [ht] at h; obtain ⟨cs, h, _⟩ := h; exact ⟨cs, h⟩
theorem okArr {P : Program} {W : World} {r : Reach} {base : Nat} {t : TypeId} {v : Value} {n e : Nat} (ht : P.underlying t = some (.array n e)) (h : Value.okWide P W r base t v) : ∃ cs, v = .agg cs := by
  unfold Value.okWide at h; rw [ht] at h; obtain ⟨cs, h, _⟩ := h; exact ⟨cs, h⟩
theorem agg_of {cs : Array Value} {l : List Value} (h : cs.toList = l) : Value.agg cs = .agg l.toArray := by
  subst h; simp
theorem rd_flags {W : World} {cs : List Value} (h : RdT Tryd.prog W 62 cs) : ∃ r w e, cs = [.bool r, .bool w, .bool e] := by
  have c1 : Tryd.prog.cellsOf 4 = 1 := by kernel_rfl
  have hl := h.len Tryd.underlying62 (n := 3) (by kernel_rfl)
  match cs, hl with
  | [x, y, z], _ =>
    obtain ⟨a, ha⟩ := (h.field Tryd.underlying62 0 4 0 1 rfl c1).bool Tryd.underlying4
    obtain ⟨b, hb⟩ := (h.field Tryd.underlying62 1 4 1 1 rfl c1).bool Tryd.underlying4
    obtain ⟨c, hc⟩ := (h.field Tryd.underlying62 2 4 2 1 rfl c1).bool Tryd.underlying4
    cases ha; cases hb; cases hc
    exact ⟨a, b, c, rfl⟩
theorem treeHands_val (r w e : Bool) : (evCall ctx 200 19 [.agg #[.bool r, .bool w, .bool e]] h0).map (·.1) = some (.bool true) := by
  cases r <;> cases w <;> cases e <;> kernel_rfl
theorem treeHands_law (W : World) (h : W.ShapedOpen Tryd.prog) {base : Nat} {v0 : Value} (o0 : Value.okWide Tryd.prog W .any base 62 v0) (r0 : RdT Tryd.prog W 62 v0.cells.toList) :
    Calls Tryd.prog 19 #[v0] W fun e w' => e = .returned (.bool true) ∧ Below W.heap.size W w' := by
  obtain ⟨cs, rfl⟩ := okAgg Tryd.underlying62 o0
  obtain ⟨a, b, c, hc⟩ := rd_flags r0
  have hc : cs.toList = _ := hc
  rw [agg_of hc]
  exact closed_args (args := [.agg #[.bool a, .bool b, .bool c]]) (ctx_from h) ctx_mix rfl (treeHands_val a b c)
end Go.Proofs.YtncmgiddcefpcaaDoor
