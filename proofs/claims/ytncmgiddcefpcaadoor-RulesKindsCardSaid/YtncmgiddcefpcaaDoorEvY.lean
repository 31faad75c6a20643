/- The same rules as equations in a form that 'simp only' takes step by step, the rest left as it is till its turn comes. -/
import Derived.Test.YtncmgiddcefpcaaDoorEvW
namespace Go.Ev
open Go
set_option linter.unusedSimpArgs false
set_option linter.unusedVariables false

/-- Something that must be there, and what follows. -/
def onSome {α : Type} (x : Option α) (f : α → Prop) : Prop := ∃ a, x = some a ∧ f a
theorem onSome_some {α : Type} (a : α) (f : α → Prop) : onSome (some a) f = f a := by simp [onSome]
theorem onSome_bind {α β : Type} (x : Option α) (g : α → Option β) (f : β → Prop) : onSome (x.bind g) f = onSome x fun a => onSome (g a) f := by
  simp only [onSome, Option.bind_eq_some_iff]
  exact propext ⟨fun ⟨b, ⟨a, h1, h2⟩, h3⟩ => ⟨a, h1, b, h2, h3⟩, fun ⟨a, h1, b, h2, h3⟩ => ⟨b, ⟨a, h1, h2⟩, h3⟩⟩
theorem onSome_map {α β : Type} (x : Option α) (g : α → β) (f : β → Prop) : onSome (x.map g) f = onSome x fun a => f (g a) := by
  simp only [onSome, Option.map_eq_some_iff]
  exact propext ⟨fun ⟨b, ⟨a, h1, h2⟩, h3⟩ => ⟨a, h1, h2 ▸ h3⟩, fun ⟨a, h1, h3⟩ => ⟨g a, ⟨a, h1, rfl⟩, h3⟩⟩

variable {C : Ctx}
/-- What follows of a piece of code. -/
def nextP (C : Ctx) (b : Code) (Q : Ex → Fr → Hp → Prop) : Ex → Fr → Hp → Prop
  | .norm, fr, h => Wp C b fr h Q
  | e, fr, h => Q e fr h
def outP (i : Nat) (Q : Ex → Fr → Hp → Prop) : Ex → Fr → Hp → Prop
  | .exit j, fr, h => bif Nat.beq j i then Q .norm fr h else Q (.exit j) fr h
  | e, fr, h => Q e fr h
section
variable {fr : Fr} {h : Hp} {Q : Ex → Fr → Hp → Prop} {a b : Code} {i j : Nat} {ops : Array Oper}
theorem nextP_norm : nextP C b Q .norm fr h = Wp C b fr h Q := rfl
theorem nextP_ret : nextP C b Q .ret fr h = Q .ret fr h := rfl
theorem nextP_exit : nextP C b Q (.exit i) fr h = Q (.exit i) fr h := rfl
theorem outP_norm : outP i Q .norm fr h = Q .norm fr h := rfl
theorem outP_ret : outP i Q .ret fr h = Q .ret fr h := rfl
theorem outP_same : outP i Q (.exit i) fr h = Q .norm fr h := by simp [outP]
theorem outP_other (hj : Nat.beq j i = false) : outP i Q (.exit j) fr h = Q (.exit j) fr h := by simp [outP, hj]

theorem Wp_seq : Wp C (.seq a b) fr h Q = Wp C a fr h (nextP C b Q) := by
  refine propext ⟨fun ⟨n, e, fr', h', e1, q⟩ => ?_, fun w => Wp.seq (w.mono fun e fr h q => by cases e <;> exact q)⟩
  unfold evCode at e1
  split at e1
  · rename_i fr1 h1 h2
    exact ⟨n, .norm, fr1, h1, h2, n, e, fr', h', e1, q⟩
  · rename_i hne
    refine ⟨n, e, fr', h', e1, ?_⟩
    cases e with
    | norm => exact absurd e1 (hne _ _)
    | ret => exact q
    | exit i => exact q
theorem Wp_skip : Wp C .skip fr h Q = Q .norm fr h :=
  propext ⟨fun ⟨n, e, fr', h', e1, q⟩ => by simp only [evCode, Option.some.injEq, Prod.mk.injEq] at e1; obtain ⟨rfl, rfl, rfl⟩ := e1; exact q, Wp.skip⟩
theorem Wp_ret : Wp C .ret fr h Q = Q .ret fr h :=
  propext ⟨fun ⟨n, e, fr', h', e1, q⟩ => by simp only [evCode, Option.some.injEq, Prod.mk.injEq] at e1; obtain ⟨rfl, rfl, rfl⟩ := e1; exact q, Wp.ret⟩
theorem Wp_exit : Wp C (.exit i) fr h Q = Q (.exit i) fr h :=
  propext ⟨fun ⟨n, e, fr', h', e1, q⟩ => by simp only [evCode, Option.some.injEq, Prod.mk.injEq] at e1; obtain ⟨rfl, rfl, rfl⟩ := e1; exact q, Wp.exit⟩
def asB : Value → Option Bool
  | .bool b => some b
  | _ => none
theorem asB_bool (b : Bool) : asB (.bool b) = some b := rfl
def kCond2 (C : Ctx) (a b : Code) (fr : Fr) (h : Hp) (Q : Ex → Fr → Hp → Prop) (c : Bool) : Prop := bif c then Wp C a fr h Q else Wp C b fr h Q
theorem kCond2_true : kCond2 C a b fr h Q true = Wp C a fr h Q := rfl
theorem kCond2_false : kCond2 C a b fr h Q false = Wp C b fr h Q := rfl
def kCond (C : Ctx) (a b : Code) (fr : Fr) (h : Hp) (Q : Ex → Fr → Hp → Prop) (v : Value) : Prop := onSome (asB v) (kCond2 C a b fr h Q)
theorem kCond_eq {c : Bool} : kCond C a b fr h Q (.bool c) = kCond2 C a b fr h Q c := onSome_some _ _
theorem Wp_cond {x : Operand} : Wp C (.cond x a b) fr h Q = onSome (ev1 fr x) (kCond C a b fr h Q) := by
  refine propext ⟨fun ⟨n, e, fr', h', e1, q⟩ => ?_, fun ⟨v, h1, c, h2, h3⟩ => ?_⟩
  · unfold evCode at e1
    split at e1
    · rename_i hc; exact ⟨_, hc, true, rfl, n, e, fr', h', e1, q⟩
    · rename_i hc; exact ⟨_, hc, false, rfl, n, e, fr', h', e1, q⟩
    · cases e1
  · cases v <;> simp only [asB, Option.some.injEq, reduceCtorEq] at h2
    subst h2
    exact Wp.cond h1 (by cases ‹Bool› <;> exact h3)
theorem Wp_block : Wp C (.block i a) fr h Q = Wp C a fr h (outP i Q) := by
  refine propext ⟨fun ⟨n, e, fr', h', e1, q⟩ => ?_, fun w => Wp.block (w.mono fun e fr h q => by cases e <;> exact q)⟩
  unfold evCode at e1
  split at e1
  · rename_i j fr1 h1 h2
    refine ⟨n, .exit j, fr1, h1, h2, ?_⟩
    show bif Nat.beq j i then Q .norm fr1 h1 else Q (.exit j) fr1 h1
    cases hj : Nat.beq j i with
    | true => rw [hj] at e1; simp at e1; obtain ⟨rfl, rfl, rfl⟩ := e1; exact q
    | false => rw [hj] at e1; simp at e1; obtain ⟨rfl, rfl, rfl⟩ := e1; exact q
  · rename_i hne
    refine ⟨n, e, fr', h', e1, ?_⟩
    cases e with
    | norm => exact q
    | ret => exact q
    | exit j => exact absurd e1 (hne _ _ _)
def doneP (Q : Ex → Fr → Hp → Prop) (fr : Fr) (h : Hp) : Prop := Q .norm fr h
theorem doneP_eq : doneP Q fr h = Q .norm fr h := rfl
theorem Wp_region : Wp C (.region i ops false) fr h Q = WpO C ops ops.toList fr h (doneP Q) := by
  refine propext ⟨fun ⟨n, e, fr', h', e1, q⟩ => ?_, fun w => Wp.region w⟩
  unfold evCode at e1
  simp only [cond_false] at e1
  split at e1
  · rename_i fr1 h1 h2
    simp only [Option.some.injEq, Prod.mk.injEq] at e1
    obtain ⟨rfl, rfl, rfl⟩ := e1
    exact ⟨n, _, _, h2, q⟩
  · cases e1
end

section
variable {ops : Array Oper} {o : Oper} {l : List Oper} {fr : Fr} {h : Hp} {Q : Fr → Hp → Prop} {R : Value → Hp → Prop}
/-- What follows of an operation. -/
def stepP (C : Ctx) (ops : Array Oper) (d : Option Tmp) (l : List Oper) (fr : Fr) (Q : Fr → Hp → Prop) (v : Value) (h : Hp) : Prop := WpO C ops l (put fr d v) h Q
theorem stepP_some {d : Tmp} {v : Value} : stepP C ops (some d) l fr Q v h = WpO C ops l (fr.set d v) h Q := rfl
theorem stepP_none {v : Value} : stepP C ops none l fr Q v h = WpO C ops l fr h Q := rfl
theorem WpO_nil' : WpO C ops [] fr h Q = Q fr h := propext WpO_nil
def kWant (C : Ctx) (ops : Array Oper) (o : Oper) (l : List Oper) (fr : Fr) (h : Hp) (Q : Fr → Hp → Prop) (b : Bool) : Prop := bif b then WpP C o fr h (stepP C ops o.dst l fr Q) else stepP C ops o.dst l fr Q undef h
theorem kWant_true : kWant C ops o l fr h Q true = WpP C o fr h (stepP C ops o.dst l fr Q) := rfl
theorem kWant_false : kWant C ops o l fr h Q false = stepP C ops o.dst l fr Q undef h := rfl
theorem WpO_cons' : WpO C ops (o :: l) fr h Q = onSome (evWanted ops fr o) (kWant C ops o l fr h Q) := propext WpO_cons
end
theorem wanted_none {ops : Array Oper} {fr : Fr} {d : Option Tmp} {op : Op} {ty : TypeId} {p : String} {af : Array Edge} : evWanted ops fr ⟨d, op, ty, p, af, none⟩ = some true := rfl
def asW (w : Bool) : Value → Option Bool
  | .bool b => some (b == w)
  | .tuple _ => some false
  | _ => none
theorem asW_bool (w b : Bool) : asW w (.bool b) = some (b == w) := rfl
theorem asW_tt : asW true (.bool true) = some true := rfl
theorem asW_tf : asW true (.bool false) = some false := rfl
theorem asW_ft : asW false (.bool true) = some false := rfl
theorem asW_ff : asW false (.bool false) = some true := rfl
theorem asW_tuple (w : Bool) (vs : Array Value) : asW w (.tuple vs) = some false := rfl
def slotAt (ops : Array Oper) (j : Nat) : Option Tmp := (ops[j]?).bind (·.dst)
theorem wanted_some {ops : Array Oper} {fr : Fr} {d : Option Tmp} {op : Op} {ty : TypeId} {p : String} {af : Array Edge} {j : Nat} {w : Bool} :
    evWanted ops fr ⟨d, op, ty, p, af, some (j, w)⟩ = (slotAt ops j).bind fun t => (fr.get t).bind (asW w) := by
  unfold evWanted slotAt
  simp only
  cases ((ops[j]?).bind (·.dst)) with
  | none => rfl
  | some t =>
    simp only [Option.bind_some]
    cases fr.get t with
    | none => rfl
    | some v => cases v <;> rfl

section
variable {d : Option Tmp} {ty ty' : TypeId} {p : String} {af : Array Edge} {g : Option (Nat × Bool)} {fr : Fr} {h : Hp} {Q : Value → Hp → Prop}
/-- A continuation that takes a value, at a heap. -/
def at' (Q : Value → Hp → Prop) (h : Hp) (v : Value) : Prop := Q v h
theorem at_eq {v : Value} : at' Q h v = Q v h := rfl
theorem P_move {x : Operand} : WpP C ⟨d, .move x, ty, p, af, g⟩ fr h Q = onSome (ev1 fr x) (at' Q h) := propext WpP_move
theorem P_assign {x : Operand} : WpP C ⟨d, .assign x, ty, p, af, g⟩ fr h Q = onSome (ev1 fr x) (at' Q h) := propext WpP_assign
def kPick (a b : Operand) (fr : Fr) (h : Hp) (Q : Value → Hp → Prop) (v : Value) : Prop := onSome (asB v) fun c => onSome (ev1 fr (bif c then a else b)) (at' Q h)
theorem kPick_true {a b : Operand} : kPick a b fr h Q (.bool true) = onSome (ev1 fr a) (at' Q h) := onSome_some _ _
theorem kPick_false {a b : Operand} : kPick a b fr h Q (.bool false) = onSome (ev1 fr b) (at' Q h) := onSome_some _ _
theorem P_pick {c a b : Operand} : WpP C ⟨d, .pick c a b, ty, p, af, g⟩ fr h Q = onSome (ev1 fr c) (kPick a b fr h Q) := by
  rw [propext WpP_pick]
  refine propext ⟨fun ⟨v, h1, h2⟩ => ?_, fun ⟨v, h1, c, h2, h3⟩ => ?_⟩
  · rw [Option.bind_eq_some_iff] at h1
    obtain ⟨u, h3, h4⟩ := h1
    split at h4
    · exact ⟨_, h3, true, rfl, v, h4, h2⟩
    · exact ⟨_, h3, false, rfl, v, h4, h2⟩
    · cases h4
  · cases v <;> simp only [asB, Option.some.injEq, reduceCtorEq] at h2
    subst h2
    rename_i b'
    cases b' with
    | true => obtain ⟨v, h4, h5⟩ := h3; exact ⟨v, by rw [h1]; exact h4, h5⟩
    | false => obtain ⟨v, h4, h5⟩ := h3; exact ⟨v, by rw [h1]; exact h4, h5⟩
/-- A second operand, and a function of both. -/
def kTwo2 (F : Value → Value → Option Value) (h : Hp) (Q : Value → Hp → Prop) (a b : Value) : Prop := onSome (F a b) (at' Q h)
theorem kTwo2_eq {F : Value → Value → Option Value} {a b : Value} : kTwo2 F h Q a b = onSome (F a b) (at' Q h) := rfl
def kTwo (y : Operand) (F : Value → Value → Option Value) (fr : Fr) (h : Hp) (Q : Value → Hp → Prop) (a : Value) : Prop := onSome (ev1 fr y) (kTwo2 F h Q a)
theorem kTwo_eq {y : Operand} {F : Value → Value → Option Value} {a : Value} : kTwo y F fr h Q a = onSome (ev1 fr y) (kTwo2 F h Q a) := rfl
def kOne (F : Value → Option Value) (h : Hp) (Q : Value → Hp → Prop) (a : Value) : Prop := onSome (F a) (at' Q h)
theorem kOne_eq {F : Value → Option Value} {a : Value} : kOne F h Q a = onSome (F a) (at' Q h) := rfl
theorem P_binOp {op : BinOp} {t : TypeId} {x y : Operand} (hop : evBin.tPtr C.P t = false) : WpP C ⟨d, .binOp op t x y ty', ty, p, af, g⟩ fr h Q = onSome (ev1 fr x) (kTwo y (evBin C.P op t x y) fr h Q) := by
  rw [propext (WpP_binOp hop)]
  show onSome _ _ = _
  simp only [onSome_bind]
  rfl
theorem P_unOp {op : UnOp} {t : TypeId} {x : Operand} : WpP C ⟨d, .unOp op t x, ty, p, af, g⟩ fr h Q = onSome (ev1 fr x) (kOne (fun a => bif scal a then prunS C.P (Op.unary op a) else none) h Q) := by
  rw [propext WpP_unOp]
  show onSome _ _ = _
  simp only [onSome_bind]
  rfl
def evLen (P : Program) (t : TypeId) : Value → Option Value
  | .string s => bif tString P t == some true then some (.int .i64 s.size) else none
  | .slice _ n _ => bif (tSliceElem P t).isSome then some (.int .i64 n) else none
  | _ => none
theorem evLen_string {P : Program} {t : TypeId} {s : ByteArray} (ht : tString P t = some true) : evLen P t (.string s) = some (.int .i64 s.size) := by simp [evLen, ht]
theorem evLen_slice {P : Program} {t e : TypeId} {a : Option Addr} {n c : Nat} (ht : tSliceElem P t = some e) : evLen P t (.slice a n c) = some (.int .i64 n) := by simp [evLen, ht]
theorem P_len {t : TypeId} {x : Operand} (ht : tMap C.P t = none) : WpP C ⟨d, .call ⟨.builtin .len, #[x], #[t]⟩, ty, p, af, g⟩ fr h Q = onSome (ev1 fr x) (kOne (evLen C.P t) h Q) := by
  rw [propext (WpP_len ht)]
  show onSome _ _ = _
  simp only [onSome_bind]
  rfl
theorem P_index {t : TypeId} {x i : Operand} : WpP C ⟨d, .index t x i, ty, p, af, g⟩ fr h Q = onSome (ev1 fr x) (kTwo i (evIndex C.P t) fr h Q) := by
  rw [propext WpP_index]; show onSome _ _ = _; simp only [onSome_bind]; rfl
theorem P_indexAddr {t : TypeId} {x i : Operand} : WpP C ⟨d, .indexAddr t x i, ty, p, af, g⟩ fr h Q = onSome (ev1 fr x) (kTwo i (evIndexAddr C.P t) fr h Q) := by
  rw [propext WpP_indexAddr]; show onSome _ _ = _; simp only [onSome_bind]; rfl
theorem P_field {t : TypeId} {x : Operand} {i : Nat} : WpP C ⟨d, .field t x i, ty, p, af, g⟩ fr h Q = onSome (ev1 fr x) (kOne (fun a => evField C.P t a i) h Q) := by
  rw [propext WpP_field]; show onSome _ _ = _; simp only [onSome_bind]; rfl
theorem P_fieldAddr {t : TypeId} {x : Operand} {i : Nat} : WpP C ⟨d, .fieldAddr t x i, ty, p, af, g⟩ fr h Q = onSome (ev1 fr x) (kOne (fun a => evFieldAddr C.P t a i) h Q) := by
  rw [propext WpP_fieldAddr]; show onSome _ _ = _; simp only [onSome_bind]; rfl
theorem P_load {t : TypeId} {x : Operand} : WpP C ⟨d, .load t x, ty, p, af, g⟩ fr h Q = onSome (ev1 fr x) (kOne (fun a => evLoad C.P t a h) h Q) := by
  rw [propext WpP_load]; show onSome _ _ = _; simp only [onSome_bind]; rfl
def callP (C : Ctx) (f : FuncId) (h : Hp) (Q : Value → Hp → Prop) (vs : List Value) : Prop := ∃ v h', Ret C f vs h v h' ∧ Q v h'
theorem callP_of {f : FuncId} {vs : List Value} {v : Value} {h' : Hp} (r : Ret C f vs h v h') : callP C f h Q vs = Q v h' :=
  propext ⟨fun ⟨v2, h2, r2, q⟩ => by obtain ⟨rfl, rfl⟩ := r.det r2; exact q, fun q => ⟨v, h', r, q⟩⟩
theorem P_call {f : FuncId} {as : Array Operand} {ts : Array TypeId} : WpP C ⟨d, .call ⟨.value (.func f), as, ts⟩, ty, p, af, g⟩ fr h Q = onSome (evs fr as.toList) (callP C f h Q) := by
  refine propext ⟨fun ⟨n, v, h', e, q⟩ => ?_, fun ⟨vs, h1, v, h', h2, h3⟩ => WpP.call rfl rfl h1 h2 h3⟩
  have e : evEff C.P (evCall C n) fr ⟨d, .call ⟨.value (.func f), as, ts⟩, ty, p, af, g⟩ h = some (v, h') := e
  simp only [evEff, evEffCall, ev1, Option.bind_some] at e
  obtain ⟨vs, h1, h2⟩ := Option.bind_eq_some_iff.1 e
  exact ⟨vs, h1, v, h', ⟨n, by simpa using h2⟩, q⟩
end
theorem ev1_tmp {fr : Fr} {t : Nat} : ev1 fr (.tmp t) = fr.get t := rfl
theorem ev1_func {fr : Fr} {f : Nat} : ev1 fr (.func f) = some (.func (.func f) #[] #[]) := rfl
theorem ev1_int {fr : Fr} {k : IntKind} {n : Int} : ev1 fr (.const (.int k n)) = some (.int k n) := rfl
theorem ev1_bool {fr : Fr} {b : Bool} : ev1 fr (.const (.bool b)) = some (.bool b) := rfl
theorem ev1_string {fr : Fr} {s : ByteArray} : ev1 fr (.const (.string s)) = some (.string s) := rfl
theorem evs_nil {fr : Fr} : evs fr [] = some [] := rfl
theorem evs_cons {fr : Fr} {x : Operand} {l : List Operand} : evs fr (x :: l) = (ev1 fr x).bind fun v => (evs fr l).bind fun vs => some (v :: vs) := rfl
end Go.Ev
