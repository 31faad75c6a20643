/- The context of the contracts: the seat's own, and each law's first check (awake), which is true at any call. -/
import Derived.Test.YtncmgiddcefpcaaGreatDoorCtx
import Derived.Test.YtncmgiddcefpcaaGreatDoorEvM3
namespace Go.Proofs.YtncmgiddcefpcaaGreatDoor
open Go Go.Ev Go.RowKit
set_option linter.unusedSimpArgs false
set_option linter.unusedVariables false
set_option maxRecDepth 100000

/-- A call without arguments that is true and changes nothing. -/
def sumTrue : Sum := fun _ h => some (.bool true, h)
theorem sumTrue_ok {I : Inv} {f : FuncId} (hI : ∀ m h w, I m h w → ∃ mx, w.cell? ⟨0, 0, none⟩ = some (.int .i64 mx)) {n : Nat} (e : (evCall ctx n f [] h0).map (·.1) = some (.bool true)) : ∀ h v h', sumTrue [] h = some (v, h') → ∀ m w args', Rep ctx.P m h w → I m h w → VL m [] args' →
    Calls ctx.P f args'.toArray w fun e w' => ∃ v' m', e = .returned v' ∧ Rep ctx.P m' h' w' ∧ Step m h w m' h' w' ∧ VRel m' v v' := by
  intro h v h' hs m w args' r hi hv
  cases hv
  cases hs
  have hC : CtxOK ctx (From m0 h0 w) (regOk ctx.P) := ctx_ok fun _ _ _ i => (hI m h w hi).imp fun _ e => i.cell0 e
  refine (closed_bool hC ctx_mix e).mono fun e w' he => ?_
  obtain ⟨rfl, hb⟩ := he
  obtain ⟨h1, h2⟩ := r.below hb
  exact ⟨_, m, rfl, h1, h2, .bool _⟩

theorem awake_val : (awakes.all fun f => match ((evCall ctx 200 f [] h0).map (·.1) : Option Value) with
  | some (.bool b) => b
  | _ => false) = true := by kernel_rfl
theorem awake_good : (awakes.all fun f => match Tryz.prog.funcs[f]? with
  | some fn => fn.body.isSome && !(fn.name == "runtime.NumGoroutine")
  | none => false) = true := by kernel_rfl

theorem kon_ok {I : Inv} (hI : ∀ m h w, I m h w → ∃ mx, w.cell? ⟨0, 0, none⟩ = some (.int .i64 mx)) : CtxOK kon I (regOk kon.P) := by
  have base := ctx_ok hI
  refine ⟨base.1, fun f s hs args h v h' e => ?_⟩
  simp only [kon] at hs
  cases hf : awakes.contains f with
  | false => rw [hf] at hs; exact base.2 f s hs args h v h' e
  | true =>
    rw [hf] at hs
    simp only [cond_true, Option.some.injEq] at hs
    subst hs
    have hm : f ∈ awakes := by simpa using hf
    have h1 := List.all_eq_true.1 awake_val f hm
    have h2 := List.all_eq_true.1 awake_good f hm
    unfold sumAwake at e
    split at e
    · refine ⟨?_, fun m w args' r hi hv => ?_⟩
      · split at h2
        · rename_i fn hfn
          simp only [Bool.and_eq_true, Bool.not_eq_true'] at h2
          exact ⟨fn, hfn, h2.2, by have := h2.1; cases hb : fn.body <;> simp_all⟩
        · cases h2
      · refine sumTrue_ok hI (n := 200) ?_ h v h' (by simpa [sumTrue] using e) m w args' r hi hv
        split at h1
        · rename_i b hb
          rw [hb, h1]
        · cases h1
    · cases e
theorem kon_mix : kon.P.follows .mixedOrders = true := ctx_mix

theorem kon_from {w0 : World} (h : w0.ShapedOpen Tryz.prog) : CtxOK kon (From (mIn w0) (hIn w0) w0) (regOk kon.P) :=
  kon_ok fun _ _ _ i => (maxLen h).imp fun _ e => i.cellIn e
end Go.Proofs.YtncmgiddcefpcaaGreatDoor
