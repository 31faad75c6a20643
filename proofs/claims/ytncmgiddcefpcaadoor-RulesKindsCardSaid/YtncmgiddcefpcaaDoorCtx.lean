/- The context of this seat: which functions are stepped through (their code passes the check), which enter by a summary; and that it holds. -/
import Derived.Test.YtncmgiddcefpcaaDoorEvU
import Derived.Test.YtncmgiddcefpcaaDoorConNs
namespace Go.Proofs.YtncmgiddcefpcaaDoor
open Go Go.Ev Go.RowKit
set_option linter.unusedSimpArgs false
set_option linter.unusedVariables false
set_option maxRecDepth 100000

/-- The functions 2 to 120 - 1. -/
def mask : Nat := 2 ^ 120 - 4
def sums : List (Nat × Sum) := [(75, sumSplit 9), (78, sumJoin), (127, sumCmp Lib.compareBytes), (68, sumNames 9)]
def sumAt (f : Nat) : List (Nat × Sum) → Option Sum
  | [] => none
  | (g, s) :: l => bif Nat.beq f g then some s else sumAt f l
noncomputable def ctx : Ctx := { P := Tryd.prog, mask := mask, S := fun f => sumAt f sums }

theorem mask_all : ((List.range 120).all fun f => !(mask.testBit f) || okF Tryd.prog f) = true := by kernel_rfl

theorem ctx_mix : ctx.P.follows .mixedOrders = true := by kernel_rfl

theorem good1 : GoodF Tryd.prog 75 := ⟨Tryd.f75, Tryd.func75, by kernel_rfl, by kernel_rfl⟩
theorem good2 : GoodF Tryd.prog 78 := ⟨Tryd.f78, Tryd.func78, by kernel_rfl, by kernel_rfl⟩
theorem good3 : GoodF Tryd.prog 127 := ⟨Tryd.f127, Tryd.func127, by kernel_rfl, by kernel_rfl⟩
theorem good4 : GoodF Tryd.prog 68 := ⟨Tryd.f68, Tryd.func68, by kernel_rfl, by kernel_rfl⟩

theorem ctx_ok {I : Inv} (hI : ∀ m h w, I m h w → ∃ mx, w.cell? ⟨0, 0, none⟩ = some (.int .i64 mx)) : CtxOK ctx I (regOk ctx.P) := by
  refine ⟨fun f hf => mask_ok (k := 120) (of_decide_eq_true (by kernel_rfl)) mask_all f hf, fun f s hs args h v h' e => ?_⟩
  simp only [ctx, sums, sumAt] at hs
  rcases h1 : Nat.beq f 75 with _ | _
  · rcases h2 : Nat.beq f 78 with _ | _
    · rcases h3 : Nat.beq f 127 with _ | _
      · rcases h4 : Nat.beq f 68 with _ | _
        · simp [h1, h2, h3, h4] at hs
        · simp only [h1, h2, h3, h4, cond_false, cond_true, Option.some.injEq] at hs
          subst hs
          obtain rfl := Nat.eq_of_beq_eq_true h4
          exact ⟨good4, names_sum (I := I) args h v h' e⟩
      · simp only [h1, h2, h3, cond_false, cond_true, Option.some.injEq] at hs
        subst hs
        obtain rfl := Nat.eq_of_beq_eq_true h3
        exact ⟨good3, sumCmp_ok (I := I) Tryd.strings_Compare args h v h' e⟩
    · simp only [h1, h2, cond_false, cond_true, Option.some.injEq] at hs
      subst hs
      obtain rfl := Nat.eq_of_beq_eq_true h2
      exact ⟨good2, sumJoin_ok (I := I) Tryd.strings_Join_none Tryd.strings_Join args h v h' e⟩
  · simp only [h1, cond_true, Option.some.injEq] at hs
    subst hs
    obtain rfl := Nat.eq_of_beq_eq_true h1
    exact ⟨good1, sumSplit_ok hI Tryd.strings_Split args h v h' e⟩

/-- The cell of the library's own variable, at a world of the program's shape. -/
theorem maxLen {w : World} (h : w.ShapedOpen Tryd.prog) : ∃ m, w.cell? ⟨0, 0, none⟩ = some (.int .i64 m) :=
  Go.Proofs.cell_of_shapedOpen_int (zero := #[.int .i64 0]) (t := 3) h (of_decide_eq_true (by kernel_rfl)) (by kernel_rfl) rfl (by kernel_rfl) (by kernel_rfl) Tryd.underlying3

theorem ctx_from {w0 : World} (h : w0.ShapedOpen Tryd.prog) : CtxOK ctx (From m0 h0 w0) (regOk ctx.P) :=
  ctx_ok fun _ _ _ i => (maxLen h).imp fun _ e => i.cell0 e
end Go.Proofs.YtncmgiddcefpcaaDoor
