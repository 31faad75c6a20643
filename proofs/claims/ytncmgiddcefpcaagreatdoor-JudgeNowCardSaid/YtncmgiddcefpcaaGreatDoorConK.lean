/- The keys of the hierarchy's map, and the equality of structs. -/
import Derived.Test.YtncmgiddcefpcaaGreatDoorEvM4
import Derived.Test.YtncmgiddcefpcaaGreatDoorProg
namespace Go.Proofs.YtncmgiddcefpcaaGreatDoor
open Go Go.Ev Go.Con
set_option linter.unusedSimpArgs false
set_option linter.unusedVariables false
set_option maxRecDepth 100000

def keyK (p : Int × ByteArray) : Value := .agg #[.int .i64 p.1, .string p.2]
theorem eqIn_int {P : Program} {t : TypeId} {k : IntKind} (ht : P.underlying t = some (.int k)) (n : Nat) (a b : Int) : prun P (Op.equalIn (n + 1) t (.int k a) (.int k b)) = some (decide (a = b)) := by
  unfold Op.equalIn
  rw [prun_bind, prun_underlying ht, Option.bind_some]
  simp only [if_true]
  show some (a == b) = _
  rfl
theorem eqIn_string {P : Program} {t : TypeId} (ht : P.underlying t = some .string) (n : Nat) (a b : ByteArray) : prun P (Op.equalIn (n + 1) t (.string a) (.string b)) = some (decide (a = b)) := by
  unfold Op.equalIn
  rw [prun_bind, prun_underlying ht, Option.bind_some]
  show some (a == b) = _
  congr 1
  rw [Bool.eq_iff_iff, decide_eq_true_eq]
  show (a.data == b.data) = true ↔ _
  rw [beq_iff_eq]
  exact ⟨fun h => by cases a; cases b; simp_all, fun h => by rw [h]⟩
theorem eqIn_bool {P : Program} {t : TypeId} (ht : P.underlying t = some .bool) (n : Nat) (a b : Bool) : prun P (Op.equalIn (n + 1) t (.bool a) (.bool b)) = some (decide (a = b)) := by
  unfold Op.equalIn
  rw [prun_bind, prun_underlying ht, Option.bind_some]
  show some (a == b) = _
  cases a <;> cases b <;> rfl

/-- The fields of two structs, compared one by one. -/
def fieldsEq (P : Program) (n : Nat) (xs ys : Array Value) : List Field → Option Bool
  | [] => some true
  | f :: fs => if f.name ≠ "_" then (prun P (part f.type xs f.offset)).bind fun a => (prun P (part f.type ys f.offset)).bind fun b => (prun P (Op.equalIn n f.type a b)).bind fun c => bif c then fieldsEq P n xs ys fs else some false
    else fieldsEq P n xs ys fs
theorem prun_pure {α : Type} {P : Program} (a : α) : prun P (pure a : Sem α) = some a := rfl
theorem eqIn_struct {P : Program} {t : TypeId} {fs : Array Field} (ht : P.underlying t = some (.struct fs)) (hs : P.stoodInHeld t = false) (n : Nat) (xs ys : Array Value) {r : Bool} (h : fieldsEq P n xs ys fs.toList = some r) :
    prun P (Op.equalIn (n + 1) t (.agg xs) (.agg ys)) = some r := by
  unfold Op.equalIn
  rw [prun_bind, prun_underlying ht, Option.bind_some]
  simp only
  have h0 : prun P Go.program = some P := rfl
  rw [prun_bind, h0, Option.bind_some, hs]
  simp only [Bool.false_eq_true, if_false]
  rw [prun_bind, ← Array.forIn_toList]
  have loop : ∀ (l : List Field) (r : Bool), fieldsEq P n xs ys l = some r → prun P (forIn l ((none : Option Bool), ()) fun f __s =>
      if f.name ≠ "_" then do
        let __do_lift ← part f.type xs f.offset
        let __do_lift_1 ← part f.type ys f.offset
        let __do_lift ← Op.equalIn n f.type __do_lift __do_lift_1
        if (!__do_lift) = true then pure (ForInStep.done (some false, ()))
          else pure (ForInStep.yield (none, ()))
      else pure (ForInStep.yield (none, ()))) = some (bif r then (none, ()) else (some false, ())) := by
    intro l
    induction l with
    | nil => intro r hr; cases hr; rfl
    | cons f l ih =>
      intro r hr
      rw [List.forIn_cons, prun_bind]
      unfold fieldsEq at hr
      by_cases hn : f.name ≠ "_"
      · rw [if_pos hn] at hr ⊢
        simp only [Option.bind_eq_some_iff] at hr
        obtain ⟨a, ha, b, hb, c, hc, hr⟩ := hr
        rw [prun_bind, ha, Option.bind_some, prun_bind, hb, Option.bind_some, prun_bind, hc, Option.bind_some]
        cases c with
        | true => simp only [Bool.not_true, Bool.false_eq_true, if_false, cond_true] at hr ⊢; rw [prun_pure, Option.bind_some]; exact ih r hr
        | false => simp only [Bool.not_false, if_true, cond_false] at hr ⊢; cases hr; rfl
      · rw [if_neg hn] at hr ⊢
        rw [prun_pure, Option.bind_some]
        exact ih r hr
  rw [loop _ _ h, Option.bind_some]
  cases r <;> rfl

/-- A part that is one cell. -/
theorem prun_part {P : Program} {t : TypeId} {cs : Array Value} {o : Nat} {v : Value} (h : prun P (part t cs o) = some v) : prun P (part t cs o) = some v := h

theorem eq_key (x y : Int × ByteArray) : prun Tryz.prog (Op.equal 149 (keyK x) (keyK y)) = some (decide (x = y)) := by
  obtain ⟨a, s⟩ := x
  obtain ⟨b, u⟩ := y
  have h1 := Tryz.underlying149
  have e1 := eqIn_int (P := Tryz.prog) (t := 3) Tryz.underlying3 9998 a b
  have e2 := eqIn_string (P := Tryz.prog) (t := 9) Tryz.underlying9 9998 s u
  refine eqIn_struct h1 (by kernel_rfl) 9999 _ _ ?_
  have p1 : ∀ (v w : Value), prun Tryz.prog (part 3 #[v, w] 0) = some v := by intro v w; kernel_rfl
  have p2 : ∀ (v w : Value), prun Tryz.prog (part 9 #[v, w] 1) = some w := by intro v w; kernel_rfl
  simp only [fieldsEq, ne_eq, String.reduceEq, not_false_eq_true, if_true, p1, p2, e1, e2, Option.bind_some]
  by_cases h : a = b <;> by_cases h' : s = u <;> simp [h, h']
theorem chk_key (b : Bool) (x : Int × ByteArray) : prun Tryz.prog (Instr.checkKey b 10000 149 (keyK x)) = some () := by
  obtain ⟨a, s⟩ := x
  kernel_rfl
theorem keyK_ok : KeyOK Tryz.prog 149 keyK :=
  keyStruct_ok Tryz.underlying149 (fun _ => rfl) chk_key eq_key (fun x => by
    simp [Instr.sameBits, keyK]
    show (x.snd.data == x.snd.data) = true
    simp)
end Go.Proofs.YtncmgiddcefpcaaGreatDoor
