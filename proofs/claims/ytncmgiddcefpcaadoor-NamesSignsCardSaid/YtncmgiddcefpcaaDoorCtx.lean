/- The context of this seat: which functions are stepped through (their code passes the check), which enter by the shelf's contracts; and that it holds. -/
import Derived.Test.YtncmgiddcefpcaaDoorEvU
import Derived.Test.YtncmgiddcefpcaaDoorShelf
namespace Go.Proofs.YtncmgiddcefpcaaDoor
open Go Go.Ev Go.RowKit
set_option maxRecDepth 100000

/-- The functions 2 to 119. -/
def mask : Nat := 2 ^ 120 - 4
noncomputable def ctx : Ctx := { P := Tryd.prog, mask := mask, S := fun f => bif Nat.beq f 75 then some (sumSplit 9) else bif Nat.beq f 78 then some sumJoin else bif Nat.beq f 127 then some (sumCmp Lib.compareBytes) else none }

theorem mask_all : ((List.range 120).all fun f => !(mask.testBit f) || okF Tryd.prog f) = true := by kernel_rfl

theorem ctx_mix : ctx.P.follows .mixedOrders = true := by kernel_rfl

theorem good75 : GoodF Tryd.prog 75 := ⟨Tryd.f75, Tryd.func75, by kernel_rfl, by kernel_rfl⟩
theorem good78 : GoodF Tryd.prog 78 := ⟨Tryd.f78, Tryd.func78, by kernel_rfl, by kernel_rfl⟩
theorem good127 : GoodF Tryd.prog 127 := ⟨Tryd.f127, Tryd.func127, by kernel_rfl, by kernel_rfl⟩

theorem ctx_ok {I : Inv} (hI : ∀ m h w, I m h w → ∃ mx, w.cell? ⟨0, 0, none⟩ = some (.int .i64 mx)) : CtxOK ctx I (regOk ctx.P) := by
  refine ⟨fun f hf => mask_ok (k := 120) (of_decide_eq_true (by kernel_rfl)) mask_all f hf, fun f s hs args h v h' e => ?_⟩
  simp only [ctx] at hs
  rcases h1 : Nat.beq f 75 with _ | _
  · rcases h2 : Nat.beq f 78 with _ | _
    · rcases h3 : Nat.beq f 127 with _ | _
      · simp [h1, h2, h3] at hs
      · simp only [h1, h2, h3, cond_false, cond_true, Option.some.injEq] at hs
        subst hs
        obtain rfl := Nat.eq_of_beq_eq_true h3
        exact ⟨good127, sumCmp_ok (I := I) Tryd.strings_Compare args h v h' e⟩
    · simp only [h1, h2, cond_false, cond_true, Option.some.injEq] at hs
      subst hs
      obtain rfl := Nat.eq_of_beq_eq_true h2
      exact ⟨good78, sumJoin_ok (I := I) Tryd.strings_Join_none Tryd.strings_Join args h v h' e⟩
  · simp only [h1, cond_true, Option.some.injEq] at hs
    subst hs
    obtain rfl := Nat.eq_of_beq_eq_true h1
    exact ⟨good75, sumSplit_ok hI Tryd.strings_Split args h v h' e⟩

/-- The cell of the library's own variable, at a world of the program's shape. -/
theorem maxLen {w : World} (h : w.ShapedOpen Tryd.prog) : ∃ m, w.cell? ⟨0, 0, none⟩ = some (.int .i64 m) :=
  Go.Proofs.cell_of_shapedOpen_int (zero := #[.int .i64 0]) (t := 3) h (of_decide_eq_true (by kernel_rfl)) (by kernel_rfl) rfl (by kernel_rfl) (by kernel_rfl) Tryd.underlying3

theorem ctx_from {w0 : World} (h : w0.ShapedOpen Tryd.prog) : CtxOK ctx (From m0 h0 w0) (regOk ctx.P) :=
  ctx_ok fun _ _ _ i => (maxLen h).imp fun _ e => i.cell0 e
end Go.Proofs.YtncmgiddcefpcaaDoor
