/- What an argument reads as: flags, brackets. -/
import Derived.Test.YtncmgiddcefpcaaGreatDoorConZ
import Derived.Test.YtncmgiddcefpcaaGreatDoorConT

namespace Go.Proofs.YtncmgiddcefpcaaGreatDoor
open Go Go.Ev Go.RowKit Go.Con
set_option linter.unusedSimpArgs false
set_option linter.unusedVariables false
set_option maxRecDepth 1000000
theorem rdFlags {W : World} {v : Value} (r : RdT Tryz.prog W 62 v.cells.toList) {base : Nat} (o : Value.okWide Tryz.prog W .any base 62 v) : ∃ f : Fl, v = .agg #[.bool f.r, .bool f.w, .bool f.e] := by
  obtain ⟨cs, rfl⟩ := okAgg Tryz.underlying62 o
  have c1 : Tryz.prog.cellsOf 4 = 1 := by kernel_rfl
  have r : RdT Tryz.prog W 62 cs.toList := r
  have hl := r.len Tryz.underlying62 (n := 3) (by kernel_rfl)
  obtain ⟨l⟩ := cs
  match l, hl, r with
  | [x, y, z], _, r =>
    obtain ⟨a, ha⟩ := (r.field Tryz.underlying62 0 4 0 1 rfl c1).bool Tryz.underlying4
    obtain ⟨b, hb⟩ := (r.field Tryz.underlying62 1 4 1 1 rfl c1).bool Tryz.underlying4
    obtain ⟨c, hc⟩ := (r.field Tryz.underlying62 2 4 2 1 rfl c1).bool Tryz.underlying4
    cases ha; cases hb; cases hc
    exact ⟨⟨a, b, c⟩, rfl⟩
theorem rdBk {W : World} {v : Value} (r : RdT Tryz.prog W 32 v.cells.toList) {base : Nat} (o : Value.okWide Tryz.prog W .any base 32 v) : ∃ b : Bk, v = .agg #[.int .i64 b.r1, .int .i64 b.r2, .int .i64 b.r3, .int .i64 b.g] := by
  obtain ⟨cs, rfl⟩ := okAgg Tryz.underlying32 o
  have c1 : Tryz.prog.cellsOf 3 = 1 := by kernel_rfl
  have r : RdT Tryz.prog W 32 cs.toList := r
  have hl := r.len Tryz.underlying32 (n := 4) (by kernel_rfl)
  obtain ⟨l⟩ := cs
  match l, hl, r with
  | [x, y, z, u], _, r =>
    obtain ⟨a, ha, _⟩ := (r.field Tryz.underlying32 0 3 0 1 rfl c1).int Tryz.underlying3
    obtain ⟨b, hb, _⟩ := (r.field Tryz.underlying32 1 3 1 1 rfl c1).int Tryz.underlying3
    obtain ⟨c, hc, _⟩ := (r.field Tryz.underlying32 2 3 2 1 rfl c1).int Tryz.underlying3
    obtain ⟨d, hd, _⟩ := (r.field Tryz.underlying32 3 3 3 1 rfl c1).int Tryz.underlying3
    cases ha; cases hb; cases hc; cases hd
    exact ⟨⟨a, b, c, d⟩, rfl⟩
theorem rdU8 {W : World} {v : Value} (r : RdT Tryz.prog W 5 v.cells.toList) {base : Nat} (o : Value.okWide Tryz.prog W .any base 5 v) : ∃ c : UInt8, v = .int .u8 (c.toNat : Int) := by
  obtain ⟨n, rfl⟩ := okInt Tryz.underlying5 o
  obtain ⟨c, hc⟩ := rd_u8 r
  have hc : [Value.int .u8 n] = [.int .u8 (c.toNat : Int)] := hc
  cases hc
  exact ⟨c, rfl⟩
end Go.Proofs.YtncmgiddcefpcaaGreatDoor
