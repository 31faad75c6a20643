/- Structs that are compared: flags, brackets, terms. -/
import Derived.Test.YtncmgiddcefpcaaDoorConK
import Derived.Test.YtncmgiddcefpcaaDoorConT
namespace Go.Proofs.YtncmgiddcefpcaaDoor
open Go Go.Ev Go.Con
set_option linter.unusedSimpArgs false
set_option linter.unusedVariables false
set_option maxRecDepth 100000
theorem evBin_agg {P : Program} {t : TypeId} {xo yo : Operand} {xs ys : Array Value} {r : Bool} (hf : (flat (.agg xs) && flat (.agg ys)) = true) (hg : P.eqGuardType P.depth t = false) (he : prun P (Op.equal t (.agg xs) (.agg ys)) = some r) :
    evBin P .eql t xo yo (.agg xs) (.agg ys) = some (.bool r) ∧ evBin P .neq t xo yo (.agg xs) (.agg ys) = some (.bool !r) := by
  have h0 : prun P Go.program = some P := rfl
  have g : ∀ op, op = BinOp.eql ∨ op = BinOp.neq → prun P (eqGuard op t xo yo (.agg xs) (.agg ys)) = some () := fun op ho => by
    rcases ho with rfl | rfl
    all_goals
      unfold eqGuard
      simp only [Bool.not_true, Bool.false_eq_true, if_false]
      rw [prun_bind, h0, Option.bind_some, prun_bind, h0, Option.bind_some, hg]
      rfl
  constructor
  · unfold evBin
    rw [hf]
    show prunS P (do eqGuard .eql t xo yo (.agg xs) (.agg ys); binOp .eql t (.agg xs) (.agg ys)) = _
    unfold prunS
    rw [prun_bind, g _ (.inl rfl), Option.bind_some]
    show ((prun P ((do pure (Value.bool (← Op.equal t (.agg xs) (.agg ys)))) : Sem Value)).bind _) = _
    rw [prun_bind, he]; rfl
  · unfold evBin
    rw [hf]
    show prunS P (do eqGuard .neq t xo yo (.agg xs) (.agg ys); binOp .neq t (.agg xs) (.agg ys)) = _
    unfold prunS
    rw [prun_bind, g _ (.inr rfl), Option.bind_some]
    show ((prun P ((do pure (Value.bool (!(← Op.equal t (.agg xs) (.agg ys))))) : Sem Value)).bind _) = _
    rw [prun_bind, he]; rfl
theorem eq_fl (x y : Fl) : prun Tryd.prog (Op.equal 62 (.agg #[.bool x.r, .bool x.w, .bool x.e]) (.agg #[.bool y.r, .bool y.w, .bool y.e])) = some (decide (x = y)) := by
  have h1 := Tryd.underlying62
  have e1 := fun a b => eqIn_bool (P := Tryd.prog) (t := 4) Tryd.underlying4 9998 a b
  refine eqIn_struct h1 (by kernel_rfl) 9999 _ _ ?_
  have p1 : ∀ (u v w : Value), prun Tryd.prog (part 4 #[u, v, w] 0) = some u := by intro u v w; kernel_rfl
  have p2 : ∀ (u v w : Value), prun Tryd.prog (part 4 #[u, v, w] 1) = some v := by intro u v w; kernel_rfl
  have p3 : ∀ (u v w : Value), prun Tryd.prog (part 4 #[u, v, w] 2) = some w := by intro u v w; kernel_rfl
  simp only [fieldsEq, ne_eq, String.reduceEq, not_false_eq_true, if_true, p1, p2, p3, e1, Option.bind_some]
  obtain ⟨a, b, c⟩ := x
  obtain ⟨a', b', c'⟩ := y
  by_cases h : a = a' <;> by_cases h' : b = b' <;> by_cases h'' : c = c' <;> simp [h, h', h'']
theorem eq_bk (x y : Bk) : prun Tryd.prog (Op.equal 39 (.agg #[.int .i64 x.r1, .int .i64 x.r2, .int .i64 x.r3, .int .i64 x.g]) (.agg #[.int .i64 y.r1, .int .i64 y.r2, .int .i64 y.r3, .int .i64 y.g])) = some (decide (x = y)) := by
  have h1 := Tryd.underlying39
  have e1 := fun a b => eqIn_int (P := Tryd.prog) (t := 3) Tryd.underlying3 9998 a b
  refine eqIn_struct h1 (by kernel_rfl) 9999 _ _ ?_
  have p1 : ∀ (u v w z : Value), prun Tryd.prog (part 3 #[u, v, w, z] 0) = some u := by intro u v w z; kernel_rfl
  have p2 : ∀ (u v w z : Value), prun Tryd.prog (part 3 #[u, v, w, z] 1) = some v := by intro u v w z; kernel_rfl
  have p3 : ∀ (u v w z : Value), prun Tryd.prog (part 3 #[u, v, w, z] 2) = some w := by intro u v w z; kernel_rfl
  have p4 : ∀ (u v w z : Value), prun Tryd.prog (part 3 #[u, v, w, z] 3) = some z := by intro u v w z; kernel_rfl
  simp only [fieldsEq, ne_eq, String.reduceEq, not_false_eq_true, if_true, p1, p2, p3, p4, e1, Option.bind_some]
  obtain ⟨a, b, c, d⟩ := x
  obtain ⟨a', b', c', d'⟩ := y
  by_cases h : a = a' <;> by_cases h' : b = b' <;> by_cases h'' : c = c' <;> by_cases h3 : d = d' <;> simp [h, h', h'', h3]
theorem evFl (x y : Fl) (xo yo : Operand) : evBin kon.P .eql 62 xo yo (.agg #[.bool x.r, .bool x.w, .bool x.e]) (.agg #[.bool y.r, .bool y.w, .bool y.e]) = some (.bool (decide (x = y))) ∧
    evBin kon.P .neq 62 xo yo (.agg #[.bool x.r, .bool x.w, .bool x.e]) (.agg #[.bool y.r, .bool y.w, .bool y.e]) = some (.bool !decide (x = y)) := evBin_agg rfl (by kernel_rfl) (eq_fl x y)
theorem evBk (x y : Bk) (xo yo : Operand) : evBin kon.P .eql 39 xo yo (.agg #[.int .i64 x.r1, .int .i64 x.r2, .int .i64 x.r3, .int .i64 x.g]) (.agg #[.int .i64 y.r1, .int .i64 y.r2, .int .i64 y.r3, .int .i64 y.g]) = some (.bool (decide (x = y))) ∧
    evBin kon.P .neq 39 xo yo (.agg #[.int .i64 x.r1, .int .i64 x.r2, .int .i64 x.r3, .int .i64 x.g]) (.agg #[.int .i64 y.r1, .int .i64 y.r2, .int .i64 y.r3, .int .i64 y.g]) = some (.bool !decide (x = y)) := evBin_agg rfl (by kernel_rfl) (eq_bk x y)
theorem eq_tm (x y : Tm) : prun Tryd.prog (Op.equal 64 (tmV x) (tmV y)) = some (decide (x = y)) := by
  have h1 := Tryd.underlying64
  have e1 := eqIn_string (P := Tryd.prog) (t := 9) Tryd.underlying9 9998 x.user y.user
  have e2 : prun Tryd.prog (Op.equalIn 9999 62 (.agg #[.bool x.f.r, .bool x.f.w, .bool x.f.e]) (.agg #[.bool y.f.r, .bool y.f.w, .bool y.f.e])) = some (decide (x.f = y.f)) := by
    have h1 := Tryd.underlying62
    have e1 := fun a b => eqIn_bool (P := Tryd.prog) (t := 4) Tryd.underlying4 9997 a b
    refine eqIn_struct h1 (by kernel_rfl) 9998 _ _ ?_
    have p1 : ∀ (u v w : Value), prun Tryd.prog (part 4 #[u, v, w] 0) = some u := by intro u v w; kernel_rfl
    have p2 : ∀ (u v w : Value), prun Tryd.prog (part 4 #[u, v, w] 1) = some v := by intro u v w; kernel_rfl
    have p3 : ∀ (u v w : Value), prun Tryd.prog (part 4 #[u, v, w] 2) = some w := by intro u v w; kernel_rfl
    simp only [fieldsEq, ne_eq, String.reduceEq, not_false_eq_true, if_true, p1, p2, p3, e1, Option.bind_some]
    obtain ⟨_, ⟨a, b, c⟩⟩ := x
    obtain ⟨_, ⟨a', b', c'⟩⟩ := y
    by_cases h : a = a' <;> by_cases h' : b = b' <;> by_cases h'' : c = c' <;> simp [h, h', h'']
  refine eqIn_struct h1 (by kernel_rfl) 9999 _ _ ?_
  have p1 : ∀ (u v w z : Value), prun Tryd.prog (part 9 #[u, v, w, z] 0) = some u := by intro u v w z; kernel_rfl
  have p2 : ∀ (u v w z : Value), prun Tryd.prog (part 62 #[u, v, w, z] 1) = some (.agg #[v, w, z]) := by intro u v w z; kernel_rfl
  simp only [fieldsEq, ne_eq, String.reduceEq, not_false_eq_true, if_true, p1, p2, e1, e2, Option.bind_some]
  obtain ⟨a, f⟩ := x
  obtain ⟨b, g⟩ := y
  by_cases h : a = b <;> by_cases h' : f = g <;> simp [h, h']
theorem evTm (x y : Tm) (xo yo : Operand) : evBin kon.P .eql 64 xo yo (tmV x) (tmV y) = some (.bool (decide (x = y))) ∧ evBin kon.P .neq 64 xo yo (tmV x) (tmV y) = some (.bool !decide (x = y)) := evBin_agg rfl (by kernel_rfl) (eq_tm x y)
end Go.Proofs.YtncmgiddcefpcaaDoor
