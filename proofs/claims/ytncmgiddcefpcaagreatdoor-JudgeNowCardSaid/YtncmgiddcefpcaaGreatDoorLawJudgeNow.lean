/- JudgeNow: the law over any world. -/
import Derived.Test.YtncmgiddcefpcaaGreatDoorConJw
import Derived.Test.YtncmgiddcefpcaaGreatDoorConZr
namespace Go.Proofs.YtncmgiddcefpcaaGreatDoor
open Go Go.Ev Go.RowKit Go.Con
set_option linter.unusedSimpArgs false
set_option linter.unusedVariables false
set_option maxRecDepth 100000
theorem rdMark {W : World} {v : Value} (r : RdT Tryz.prog W 60 v.cells.toList) {base : Nat} (o : Value.okWide Tryz.prog W .any base 60 v) : ∃ m : Mk, v = .agg #[.int .i64 m.proc, .int .i64 m.kind, .int .i64 m.uid, .int .i64 m.off, .int .i64 m.at_, .int .i64 m.before, .int .i64 m.after] := by
  obtain ⟨cs, rfl⟩ := okAgg Tryz.underlying60 o
  have c1 : Tryz.prog.cellsOf 3 = 1 := by kernel_rfl
  have r : RdT Tryz.prog W 60 cs.toList := r
  have hl := r.len Tryz.underlying60 (n := 7) (by kernel_rfl)
  obtain ⟨l⟩ := cs
  match l, hl, r with
  | [x, y, z, u, p, q, s], _, r =>
    obtain ⟨a, ha, _⟩ := (r.field Tryz.underlying60 0 3 0 1 rfl c1).int Tryz.underlying3
    obtain ⟨b, hb, _⟩ := (r.field Tryz.underlying60 1 3 1 1 rfl c1).int Tryz.underlying3
    obtain ⟨c, hc, _⟩ := (r.field Tryz.underlying60 2 3 2 1 rfl c1).int Tryz.underlying3
    obtain ⟨d, hd, _⟩ := (r.field Tryz.underlying60 3 3 3 1 rfl c1).int Tryz.underlying3
    obtain ⟨e, he, _⟩ := (r.field Tryz.underlying60 4 3 4 1 rfl c1).int Tryz.underlying3
    obtain ⟨f, hf, _⟩ := (r.field Tryz.underlying60 5 3 5 1 rfl c1).int Tryz.underlying3
    obtain ⟨g, hg, _⟩ := (r.field Tryz.underlying60 6 3 6 1 rfl c1).int Tryz.underlying3
    cases ha; cases hb; cases hc; cases hd; cases he; cases hf; cases hg
    exact ⟨⟨a, b, c, d, e, f, g⟩, rfl⟩
theorem judgeNow_law (W : World) (h : W.ShapedOpen Tryz.prog) {base : Nat} {v0 v1 v2 : Value} (o0 : Value.okWide Tryz.prog W .any base 60 v0) (r0 : RdT Tryz.prog W 60 v0.cells.toList)
    (o1 : Value.okWide Tryz.prog W .any base 62 v1) (r1 : RdT Tryz.prog W 62 v1.cells.toList) (o2 : Value.okWide Tryz.prog W .any base 32 v2) (r2 : RdT Tryz.prog W 32 v2.cells.toList) :
    Calls Tryz.prog 6 #[v0, v1, v2] W fun e w' => e = .returned (.bool true) ∧ Below W.heap.size W w' := by
  obtain ⟨m, rfl⟩ := rdMark r0 o0
  obtain ⟨f, rfl⟩ := rdFlags r1 o1
  obtain ⟨b, rfl⟩ := rdBk r2 o2
  exact closed_meets (kon_from0 h) kon_mix (args := [_, _, _]) (by rfl) (jn_meets m f b h0)
end Go.Proofs.YtncmgiddcefpcaaGreatDoor
