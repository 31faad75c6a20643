/- The context of this seat: which functions are stepped through (their code passes the check), which enter by a summary; and that it holds. -/
import Derived.Test.YtncmgiddcefpcaaGreatDoorCtx0
import Derived.Test.YtncmgiddcefpcaaGreatDoorConNs
namespace Go.Proofs.YtncmgiddcefpcaaGreatDoor
open Go Go.Ev Go.RowKit
set_option linter.unusedSimpArgs false
set_option linter.unusedVariables false
set_option maxRecDepth 100000

theorem mask_all : ((List.range 115).all fun f => !(mask.testBit f) || okF Tryz.prog f) = true := by kernel_rfl

theorem ctx_mix : ctx.P.follows .mixedOrders = true := by kernel_rfl

theorem good1 : GoodF Tryz.prog 106 := ⟨Tryz.f106, Tryz.func106, by kernel_rfl, by kernel_rfl⟩
theorem good3 : GoodF Tryz.prog 110 := ⟨Tryz.f110, Tryz.func110, by kernel_rfl, by kernel_rfl⟩
theorem good4 : GoodF Tryz.prog 73 := ⟨Tryz.f73, Tryz.func73, by kernel_rfl, by kernel_rfl⟩

theorem sumAt_mem {f : Nat} {s : Sum} : ∀ {l : List (Nat × Sum)}, sumAt f l = some s → (f, s) ∈ l
  | (g, t) :: l, h => by
    unfold sumAt at h
    cases hb : Nat.beq f g with
    | true =>
      rw [hb] at h
      simp only [cond_true, Option.some.injEq] at h
      obtain rfl := Nat.eq_of_beq_eq_true hb
      rw [h]; exact List.mem_cons_self
    | false => rw [hb] at h; exact List.mem_cons_of_mem _ (sumAt_mem h)
theorem sums_good {I : Inv} (hI : ∀ m h w, I m h w → ∃ mx, w.cell? ⟨0, 0, none⟩ = some (.int .i64 mx)) : ∀ p ∈ sums, GoodF Tryz.prog p.1 ∧ SumOK Tryz.prog I p.1 p.2 := by
  intro p hp
  rcases List.mem_cons.1 hp with rfl | hp
  · exact ⟨good1, sumSplit_ok hI Tryz.strings_Split⟩
  rcases List.mem_cons.1 hp with rfl | hp
  · exact ⟨good3, sumCmp_ok (I := I) Tryz.strings_Compare⟩
  rcases List.mem_cons.1 hp with rfl | hp
  · exact ⟨good4, names_sum (I := I)⟩
  cases hp
theorem ctx_ok {I : Inv} (hI : ∀ m h w, I m h w → ∃ mx, w.cell? ⟨0, 0, none⟩ = some (.int .i64 mx)) : CtxOK ctx I (regOk ctx.P) := by
  refine ⟨fun f hf => mask_ok (k := 115) (of_decide_eq_true (by kernel_rfl)) mask_all f hf, fun f s hs args h v h' e => ?_⟩
  obtain ⟨h1, h2⟩ := sums_good hI (f, s) (sumAt_mem hs)
  exact ⟨h1, h2 args h v h' e⟩

/-- The cell of the library's own variable, at a world of the program's shape. -/
theorem maxLen {w : World} (h : w.ShapedOpen Tryz.prog) : ∃ m, w.cell? ⟨0, 0, none⟩ = some (.int .i64 m) :=
  Go.Proofs.cell_of_shapedOpen_int (zero := #[.int .i64 0]) (t := 3) h (of_decide_eq_true (by kernel_rfl)) (by kernel_rfl) rfl (by kernel_rfl) (by kernel_rfl) Tryz.underlying3

theorem ctx_from {w0 : World} (h : w0.ShapedOpen Tryz.prog) : CtxOK ctx (From m0 h0 w0) (regOk ctx.P) :=
  ctx_ok fun _ _ _ i => (maxLen h).imp fun _ e => i.cell0 e
end Go.Proofs.YtncmgiddcefpcaaGreatDoor
