/- RulesKinds: its code's head (the tree), its loop (the rules' order), its rest (what is found), as what they are evaluated to. -/
import Derived.Test.YtncmgiddcefpcaaDoorConX
namespace Go.Proofs.YtncmgiddcefpcaaDoor
open Go Go.Ev Go.RowKit Go.Con
set_option linter.unusedSimpArgs false
set_option linter.unusedVariables false
set_option maxRecDepth 1000000

noncomputable def kindsC : Code := match Tryd.f13.body with
  | some c => c
  | none => .skip
noncomputable def frOf : Res → Fr
  | some (_, fr, _) => fr
  | none => .e
noncomputable def hpOf : Res → Hp
  | some (_, _, h) => h
  | none => h0
/-- The head: at any order. -/
noncomputable def kA (a b c : Bool) (v : Value) : Res := runC 200 (headC 9 kindsC) (Tr.ofList [.agg #[.bool a, .bool b, .bool c], v] 0 .e) h0
/-- The loop, behind the head. -/
noncomputable def kL (a b c : Bool) (o : Int) : Res := runC 200 (headC 1 (tailC 9 kindsC)) ((frOf (kA a b c undef)).set 1 (.int .u8 o)) (hpOf (kA a b c undef))
noncomputable def kF (a b c : Bool) (r : Int) (x1 x63 x64 x65 : Value) : Fr := ((((frOf (kL a b c r)).set 1 x1).set 63 x63).set 64 x64).set 65 x65
/-- The rest. -/
noncomputable def kR (a b c : Bool) (r : Int) (x1 x63 x64 x65 : Value) : Option (List Value) := match runC 200 (tailC 1 (tailC 9 kindsC)) (kF a b c r x1 x63 x64 x65) (hpOf (kL a b c r)) with
  | some (.norm, fr, h) | some (.ret, fr, h) => evResults kon.P fr h [.tmp 4]
  | _ => none

def headP (a b c : Bool) : Prop := ∀ v, kA a b c v = some (.norm, (frOf (kA a b c undef)).set 1 v, hpOf (kA a b c undef))
def loopP3 (a b c : Bool) (r o : Int) : Prop := kL a b c o = some (.norm, kF a b c r (.int .u8 o) (.int .u8 o) (.int .i64 o) (.int .i64 (4 + o)), hpOf (kL a b c r))
def restP (a b c : Bool) (r : Int) : Prop := ∀ x1 x63 x64 x65, kR a b c r x1 x63 x64 x65 = some [.bool true]
def allQ (P : Int → Prop) : List Int → Prop
  | [] => True
  | x :: l => P x ∧ allQ P l
theorem allQ.nil {P : Int → Prop} : allQ P [] := trivial
theorem allQ.cons {P : Int → Prop} {x : Int} {l : List Int} (h : P x) (t : allQ P l) : allQ P (x :: l) := ⟨h, t⟩
theorem allQ.mem {P : Int → Prop} : ∀ {l : List Int} {x : Int}, allQ P l → x ∈ l → P x
  | y :: l, x, h, hx => by
    rcases List.mem_cons.1 hx with rfl | hx
    · exact h.1
    · exact allQ.mem h.2 hx
def ords (r : Nat) : List Int := ((List.range 86).map fun (q : Nat) => ((3 * q + r : Nat) : Int)).filter fun x => decide (x < 256)
theorem mem_ords (o : UInt8) : (o.toNat : Int) ∈ ords (o.toNat % 3) := by
  have h := o.toNat_lt
  unfold ords
  rw [List.mem_filter, List.mem_map]
  refine ⟨⟨o.toNat / 3, ?_, ?_⟩, by simp; omega⟩
  · rw [List.mem_range]; omega
  · congr 1; omega
def kindsP (a b c : Bool) : Prop := headP a b c ∧ ∀ r : Nat, r < 3 → allQ (loopP3 a b c r) (ords r) ∧ restP a b c r
theorem kinds_true (all : ∀ a b c, kindsP a b c) (a b c : Bool) (o : UInt8) : Meets kon 13 [.agg #[.bool a, .bool b, .bool c], .int .u8 o.toNat] h0 fun v _ => v = .bool true := by
  refine Meets.mk rfl (by kernel_rfl) Tryd.func13 rfl (congrArg Array.toList Tryd.results13) ?_
  obtain ⟨hH, hr⟩ := all a b c
  obtain ⟨hl, hR⟩ := hr (o.toNat % 3) (Nat.mod_lt _ (by decide))
  have hL := hl.mem (mem_ords o)
  have e1 := runC_split 200 9 kindsC _ _ _ _ (hH (.int .u8 o.toNat))
  unfold loopP3 kL at hL
  have e2 := runC_split 200 1 (tailC 9 kindsC) _ _ _ _ hL
  have e3 := hR (.int .u8 o.toNat) (.int .u8 o.toNat) (.int .i64 o.toNat) (.int .i64 (4 + o.toNat))
  unfold kR at e3
  split at e3
  · rename_i fr' h' he
    exact ⟨200, _, _, _, e1.trans (e2.trans he), _, e3, rfl⟩
  · rename_i fr' h' he
    exact ⟨200, _, _, _, e1.trans (e2.trans he), _, e3, rfl⟩
  · cases e3
end Go.Proofs.YtncmgiddcefpcaaDoor
