/- The rest of a law's own code, behind the point where its numbers are known. -/
import Derived.Test.YtncmgiddcefpcaaDoorEvM3
import Derived.Test.YtncmgiddcefpcaaDoorConC
namespace Go.Proofs.YtncmgiddcefpcaaDoor
open Go Go.Ev Go.RowKit Go.Con
set_option linter.unusedSimpArgs false
set_option linter.unusedVariables false
set_option maxRecDepth 1000000

/-- What the rest of a body comes to, at a frame and a heap that are known. -/
noncomputable def restV (n : Nat) (c : Code) (rs : List ResultVar) (fr : Fr) (h : Hp) : Option (List Value) :=
  match evCode kon.P (evCall kon n) (evDraw kon.P (evCall kon n)) n c fr h with
  | some (.norm, fr, h) | some (.ret, fr, h) => evResults kon.P fr h rs
  | _ => none
theorem Wp_rest {n : Nat} {c : Code} {rs : List ResultVar} {fr : Fr} {h : Hp} {vs : List Value} {Post : Value → Hp → Prop} (e : restV n c rs fr h = some vs) (hp : ∀ h, Post (tupled vs) h) : Wp kon c fr h (endP kon rs Post) := by
  unfold restV at e
  split at e
  · rename_i fr' h' he
    exact ⟨n, _, _, _, he, vs, e, hp _⟩
  · rename_i fr' h' he
    exact ⟨n, _, _, _, he, vs, e, hp _⟩
  · cases e
noncomputable def newV : Value × Hp := (evCall kon 200 34 [] h0).getD (undef, h0)
theorem newV_eq : evCall kon 200 34 [] h0 = some newV := by
  have h : (evCall kon 200 34 [] h0).isSome = true := by kernel_rfl
  unfold newV
  cases he : evCall kon 200 34 [] h0 with
  | none => rw [he] at h; cases h
  | some x => rfl
theorem new_call : Ret kon 34 [] h0 newV.1 newV.2 := ⟨200, newV_eq⟩

noncomputable def skip4 : Code → Code
  | .seq _ (.seq _ (.seq _ (.seq _ c))) => c
  | c => c
/-! ### WalkLinks -/
noncomputable def linksC : Code := match Tryd.f9.body with
  | some c => skip4 c
  | none => .skip
noncomputable def linksF (x0 x21 x22 x23 : Value) (k : Int) (b : Bool) : Fr :=
  ((((((((((((Tr.e.set 0 x0).set 1 (.bool b)).set 4 (.bool false)).set 18 (.bool true)).set 19 (.bool false)).set 20 newV.1).set 5 newV.1).set 21 x21).set 22 x22).set 23 x23).set 24 (.int .i64 k)).set 6 (.int .i64 k))
def linksV (k : Int) (b : Bool) : Prop := ∀ x0 x21 x22 x23, restV 200 linksC [.tmp 4] (linksF x0 x21 x22 x23 k b) newV.2 = some [.bool true]
end Go.Proofs.YtncmgiddcefpcaaDoor
