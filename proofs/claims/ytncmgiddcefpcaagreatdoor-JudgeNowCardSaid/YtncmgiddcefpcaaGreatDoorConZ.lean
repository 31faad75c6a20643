/- A law whose arguments bear no address: from its contract at the empty heap. -/

import Derived.Test.YtncmgiddcefpcaaGreatDoorKon
namespace Go.Proofs.YtncmgiddcefpcaaGreatDoor
open Go Go.Ev Go.RowKit
set_option linter.unusedSimpArgs false
set_option linter.unusedVariables false
set_option maxRecDepth 1000000
theorem kon_from0 {w0 : World} (h : w0.ShapedOpen Tryz.prog) : CtxOK kon (From m0 h0 w0) (regOk kon.P) :=
  kon_ok fun _ _ _ i => (maxLen h).imp fun _ e => i.cell0 e
theorem closed_meets {C : Ctx} {w0 : World} (hC : CtxOK C (From m0 h0 w0) (regOk C.P)) (hmix : C.P.follows .mixedOrders = true) {f : Nat} {args : List Value} (ha : args.all flat = true) {b : Bool}
    (e : Meets C f args h0 fun v _ => v = .bool b) : Calls C.P f args.toArray w0 fun e w' => e = .returned (.bool b) ∧ Go.RowKit.Below w0.heap.size w0 w' := by
  obtain ⟨v, h', ⟨n, e⟩, rfl⟩ := e
  exact closed_args hC hmix (n := n) ha (by rw [e]; rfl)
theorem okAgg {P : Program} {W : World} {r : Reach} {base : Nat} {t : TypeId} {v : Value} {fs : Array Field} (ht : P.underlying t = some (.struct fs)) (h : Value.okWide P W r base t v) : ∃ cs, v = .agg cs := by
  unfold Value.okWide at h; rw [ht] at h; obtain ⟨cs, h, _⟩ := h; exact ⟨cs, h⟩
theorem okArr {P : Program} {W : World} {r : Reach} {base : Nat} {t : TypeId} {v : Value} {n e : Nat} (ht : P.underlying t = some (.array n e)) (h : Value.okWide P W r base t v) : ∃ cs, v = .agg cs := by
  unfold Value.okWide at h; rw [ht] at h; obtain ⟨cs, h, _⟩ := h; exact ⟨cs, h⟩
theorem agg_of {cs : Array Value} {l : List Value} (h : cs.toList = l) : Value.agg cs = .agg l.toArray := by
  subst h; simp
theorem rd_u8 {W : World} {v : Value} (h : RdT Tryz.prog W 5 v.cells.toList) : ∃ c : UInt8, v.cells.toList = [.int .u8 (c.toNat : Int)] := by
  obtain ⟨n, h1, h2⟩ := h.int Tryz.underlying5
  obtain ⟨c, rfl⟩ := u8_of h2
  exact ⟨c, h1⟩
theorem okInt {P : Program} {W : World} {r : Reach} {base : Nat} {t : TypeId} {v : Value} {k : IntKind} (ht : P.underlying t = some (.int k)) (h : Value.okWide P W r base t v) : ∃ n, v = .int k n := by
  have h : Cell.okWide P W r base t v := by unfold Value.okWide at h; rw [ht] at h; exact h
  have h : Cell.ok P W r base t v := by unfold Cell.okWide at h; rw [ht] at h; cases v <;> exact h
  unfold Cell.ok at h
  rw [ht] at h
  cases v with
  | int k' n => exact ⟨n, by rw [h.1]⟩
  | _ => exact h.elim
end Go.Proofs.YtncmgiddcefpcaaGreatDoor
