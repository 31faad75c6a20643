/- Rules for operations, as equivalences: what steps a region under 'simp only'. -/
import Derived.Test.YtncmgiddcefpcaaDoorEvV
namespace Go.Ev
open Go
set_option linter.unusedSimpArgs false
set_option linter.unusedVariables false
variable {C : Ctx}

theorem WpO_nil {ops : Array Oper} {fr : Fr} {h : Hp} {Q : Fr → Hp → Prop} : WpO C ops [] fr h Q ↔ Q fr h :=
  ⟨fun ⟨_, _, _, e, q⟩ => by simp only [evOps, Option.some.injEq, Prod.mk.injEq] at e; obtain ⟨rfl, rfl⟩ := e; exact q, WpO.nil⟩

theorem WpO_cons {ops : Array Oper} {o : Oper} {l : List Oper} {fr : Fr} {h : Hp} {Q : Fr → Hp → Prop} :
    WpO C ops (o :: l) fr h Q ↔ ∃ b, evWanted ops fr o = some b ∧ (bif b then WpP C o fr h (fun v h => WpO C ops l (put fr o.dst v) h Q) else WpO C ops l (put fr o.dst undef) h Q) := by
  refine ⟨fun ⟨n, fr', h', e, q⟩ => ?_, fun ⟨b, h1, h2⟩ => WpO.cons h1 h2⟩
  unfold evOps at e
  split at e
  · rename_i hb
    split at e
    · rename_i v h1 h2
      exact ⟨true, hb, n, v, h1, h2, n, fr', h', e, q⟩
    · cases e
  · rename_i hb
    exact ⟨false, hb, n, fr', h', e, q⟩
  · cases e

/-- An operation that is no call of a function. -/
theorem WpP_of {o : Oper} {fr : Fr} {h : Hp} {Q : Value → Hp → Prop} (X : Option (Value × Hp)) (hx : ∀ call, evOp C.P call fr o h = X) :
    WpP C o fr h Q ↔ ∃ r, X = some r ∧ Q r.1 r.2 := by
  refine ⟨fun ⟨n, v, h', e, q⟩ => ⟨(v, h'), by rw [← hx]; exact e, q⟩, fun ⟨r, e, q⟩ => ⟨0, r.1, r.2, by rw [hx, e], q⟩⟩

section
variable {d : Option Tmp} {ty ty' : TypeId} {p : String} {af : Array Edge} {g : Option (Nat × Bool)} {fr : Fr} {h : Hp} {Q : Value → Hp → Prop}

theorem WpP_pure {o : Oper} (hk : kindOf C.P o = .pure) : WpP C o fr h Q ↔ ∃ v, evPure C.P fr o = some v ∧ Q v h := by
  rw [WpP_of ((evPure C.P fr o).map fun v => (v, h)) (fun call => by unfold evOp; rw [hk])]
  constructor
  · rintro ⟨r, e, q⟩
    obtain ⟨v, h1, rfl⟩ := Option.map_eq_some_iff.1 e
    exact ⟨v, h1, q⟩
  · rintro ⟨v, e, q⟩
    exact ⟨(v, h), by rw [e]; rfl, q⟩

theorem WpP_read {o : Oper} (hk : kindOf C.P o = .read) : WpP C o fr h Q ↔ ∃ v, evReadOrPure C.P fr o h = some v ∧ Q v h := by
  rw [WpP_of ((evReadOrPure C.P fr o h).map fun v => (v, h)) (fun call => by unfold evOp; rw [hk])]
  constructor
  · rintro ⟨r, e, q⟩
    obtain ⟨v, h1, rfl⟩ := Option.map_eq_some_iff.1 e
    exact ⟨v, h1, q⟩
  · rintro ⟨v, e, q⟩
    exact ⟨(v, h), by rw [e]; rfl, q⟩

theorem WpP_new {o : Oper} (hk : kindOf C.P o = .new) : WpP C o fr h Q ↔ ∃ x, evNew C.P fr o = some x ∧ Q (x.2 h.next) (h.push x.1) := by
  rw [WpP_of ((evNew C.P fr o).map fun (ob, mk) => (mk h.next, h.push ob)) (fun call => by unfold evOp; rw [hk])]
  constructor
  · rintro ⟨r, e, q⟩
    obtain ⟨v, h1, rfl⟩ := Option.map_eq_some_iff.1 e
    exact ⟨v, h1, q⟩
  · rintro ⟨v, e, q⟩
    exact ⟨_, by rw [e]; rfl, q⟩

theorem WpP_move {x : Operand} : WpP C ⟨d, .move x, ty, p, af, g⟩ fr h Q ↔ ∃ v, ev1 fr x = some v ∧ Q v h := WpP_pure rfl
theorem WpP_assign {x : Operand} : WpP C ⟨d, .assign x, ty, p, af, g⟩ fr h Q ↔ ∃ v, ev1 fr x = some v ∧ Q v h := WpP_pure rfl
theorem WpP_pick {c a b : Operand} : WpP C ⟨d, .pick c a b, ty, p, af, g⟩ fr h Q ↔ ∃ v, ((ev1 fr c).bind fun
    | .bool true => ev1 fr a
    | .bool false => ev1 fr b
    | _ => none) = some v ∧ Q v h := WpP_pure rfl
theorem WpP_build {t : TypeId} {ps : Array (Nat × Operand)} : WpP C ⟨d, .build t ps, ty, p, af, g⟩ fr h Q ↔ ∃ v, ((evParts fr ps.toList).bind (evBuild C.P t)) = some v ∧ Q v h := WpP_pure rfl
theorem WpP_extract {x : Operand} {i : Nat} : WpP C ⟨d, .extract x i, ty, p, af, g⟩ fr h Q ↔ ∃ v, ((ev1 fr x).bind fun
    | .tuple vs => vs[i]?
    | _ => none) = some v ∧ Q v h := WpP_pure rfl
theorem WpP_field {t : TypeId} {x : Operand} {i : Nat} : WpP C ⟨d, .field t x i, ty, p, af, g⟩ fr h Q ↔ ∃ v, ((ev1 fr x).bind fun a => evField C.P t a i) = some v ∧ Q v h := WpP_pure rfl
theorem WpP_fieldAddr {t : TypeId} {x : Operand} {i : Nat} : WpP C ⟨d, .fieldAddr t x i, ty, p, af, g⟩ fr h Q ↔ ∃ v, ((ev1 fr x).bind fun a => evFieldAddr C.P t a i) = some v ∧ Q v h := WpP_pure rfl
theorem WpP_indexAddr {t : TypeId} {x i : Operand} : WpP C ⟨d, .indexAddr t x i, ty, p, af, g⟩ fr h Q ↔ ∃ v, ((ev1 fr x).bind fun a => (ev1 fr i).bind fun b => evIndexAddr C.P t a b) = some v ∧ Q v h := WpP_pure rfl
theorem WpP_index {t : TypeId} {x i : Operand} : WpP C ⟨d, .index t x i, ty, p, af, g⟩ fr h Q ↔ ∃ v, ((ev1 fr x).bind fun a => (ev1 fr i).bind fun b => evIndex C.P t a b) = some v ∧ Q v h := WpP_pure rfl
theorem WpP_unOp {op : UnOp} {t : TypeId} {x : Operand} : WpP C ⟨d, .unOp op t x, ty, p, af, g⟩ fr h Q ↔ ∃ v, ((ev1 fr x).bind fun a => bif scal a then prunS C.P (Op.unary op a) else none) = some v ∧ Q v h := WpP_pure rfl
theorem WpP_load {t : TypeId} {x : Operand} : WpP C ⟨d, .load t x, ty, p, af, g⟩ fr h Q ↔ ∃ v, ((ev1 fr x).bind fun a => evLoad C.P t a h) = some v ∧ Q v h := by
  rw [WpP_read rfl]
  unfold evReadOrPure
  simp only [evRead, evPure]
  cases ((ev1 fr x).bind fun a => evLoad C.P t a h) <;> simp

theorem WpP_binOp {op : BinOp} {t : TypeId} {x y : Operand} (hop : evBin.tPtr C.P t = false) : WpP C ⟨d, .binOp op t x y ty', ty, p, af, g⟩ fr h Q ↔ ∃ v, ((ev1 fr x).bind fun a => (ev1 fr y).bind fun b => evBin C.P op t x y a b) = some v ∧ Q v h :=
  WpP_pure (by simp only [kindOf, hop, cond_false]; cases op <;> rfl)
theorem WpP_len {t : TypeId} {x : Operand} (ht : tMap C.P t = none) : WpP C ⟨d, .call ⟨.builtin .len, #[x], #[t]⟩, ty, p, af, g⟩ fr h Q ↔ ∃ v, ((ev1 fr x).bind fun
      | .string s => bif tString C.P t == some true then some (.int .i64 s.size) else none
      | .slice _ n _ => bif (tSliceElem C.P t).isSome then some (.int .i64 n) else none
      | _ => none) = some v ∧ Q v h := WpP_pure (by simp only [kindOf, ht, Option.isSome_none, cond_false])
end

/-! ### integers, strings -/
section
variable {P : Program} {t : TypeId} {xo yo : Operand} {k : IntKind} {a b : Int}
theorem evBin_int (op : BinOp) : evBin P op t xo yo (.int k a) (.int k b) = prunS P (binOp op t (.int k a) (.int k b)) := by
  cases op <;> rfl
theorem evBin_lss : evBin P .lss t xo yo (.int k a) (.int k b) = some (.bool (decide (a < b))) := by rw [evBin_int]; simp [prunS, binOp, Op.intCmp]; rfl
theorem evBin_leq : evBin P .leq t xo yo (.int k a) (.int k b) = some (.bool (decide (a ≤ b))) := by rw [evBin_int]; simp [prunS, binOp, Op.intCmp]; rfl
theorem evBin_gtr : evBin P .gtr t xo yo (.int k a) (.int k b) = some (.bool (decide (b < a))) := by rw [evBin_int]; simp [prunS, binOp, Op.intCmp]; rfl
theorem evBin_geq : evBin P .geq t xo yo (.int k a) (.int k b) = some (.bool (decide (b ≤ a))) := by rw [evBin_int]; simp [prunS, binOp, Op.intCmp]; rfl
theorem evBin_eql : evBin P .eql t xo yo (.int k a) (.int k b) = some (.bool (a == b)) := by rw [evBin_int]; simp [prunS, binOp, Op.intCmp]; rfl
theorem evBin_neq : evBin P .neq t xo yo (.int k a) (.int k b) = some (.bool (a != b)) := by rw [evBin_int]; simp [prunS, binOp, Op.intCmp]; rfl
theorem evBin_add : evBin P .add t xo yo (.int k a) (.int k b) = some (.int k (k.wrap (a + b))) := by rw [evBin_int]; simp [prunS, binOp, Op.intArith]; rfl
theorem evBin_sub : evBin P .sub t xo yo (.int k a) (.int k b) = some (.int k (k.wrap (a - b))) := by rw [evBin_int]; simp [prunS, binOp, Op.intArith]; rfl
theorem evBin_mul : evBin P .mul t xo yo (.int k a) (.int k b) = some (.int k (k.wrap (a * b))) := by rw [evBin_int]; simp [prunS, binOp, Op.intArith]; rfl
theorem evBin_rem (hb : b ≠ 0) : evBin P .rem t xo yo (.int k a) (.int k b) = some (.int k (a.tmod b)) := by rw [evBin_int]; simp [prunS, binOp, Op.intDiv, hb]; rfl
theorem evBin_quo (hb : b ≠ 0) : evBin P .quo t xo yo (.int k a) (.int k b) = some (.int k (k.wrap (a.tdiv b))) := by rw [evBin_int]; simp [prunS, binOp, Op.intDiv, hb]; rfl
theorem evBin_eqlS {s u : ByteArray} : evBin P .eql t xo yo (.string s) (.string u) = some (.bool (s.toList == u.toList)) := rfl
theorem evBin_neqS {s u : ByteArray} : evBin P .neq t xo yo (.string s) (.string u) = some (.bool !(s.toList == u.toList)) := rfl
theorem evBin_addS {s u : ByteArray} (hs : (s.size : Int) + u.size ≤ 9223372036854775807) : evBin P .add t xo yo (.string s) (.string u) = some (.string (s ++ u)) := by
  show prunS P (Op.stringOp .add s u) = _
  simp only [Op.stringOp]
  rw [if_neg (by simp [IntKind.max, IntKind.signed, IntKind.bits]; omega)]
  rfl
theorem unary_not {P : Program} {b : Bool} : prunS P (Op.unary .not (.bool b)) = some (.bool !b) := rfl
end
end Go.Ev
