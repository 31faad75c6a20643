/- Ev: function values: made, called. -/
import Derived.Test.YtncmgiddcefpcaaGreatDoorEvM4
namespace Go.Ev
open Go
set_option linter.unusedSimpArgs false
set_option linter.unusedVariables false
section
variable {C : Ctx} {d : Option Nat} {ty : TypeId} {p : String} {af : Array Edge} {g : Option (Nat × Bool)} {fr : Fr} {h : Hp} {Q : Value → Hp → Prop}
def kFn (C : Ctx) (fr : Fr) (as : Array Operand) (h : Hp) (Q : Value → Hp → Prop) : Value → Prop
  | .func (.func g) first captured => onSome (evs fr as.toList) fun vs => callP C g h Q (first.toList ++ vs ++ captured.toList)
  | _ => False
theorem kFn_eq {as : Array Operand} {f : FuncId} {first captured : Array Value} : kFn C fr as h Q (.func (.func f) first captured) = onSome (evs fr as.toList) fun vs => callP C f h Q (first.toList ++ vs ++ captured.toList) := rfl
theorem P_callV {i : Nat} {as : Array Operand} {ts : Array TypeId} : WpP C ⟨d, .call ⟨.value (.tmp i), as, ts⟩, ty, p, af, g⟩ fr h Q = onSome (fr.get i) (kFn C fr as h Q) := by
  have hk : kindOf C.P ⟨d, .call ⟨.value (.tmp i), as, ts⟩, ty, p, af, g⟩ = .eff := rfl
  refine propext ⟨fun ⟨n, v, h', e, q⟩ => ?_, fun ⟨w, hw, k⟩ => ?_⟩
  · have e : evEff C.P (evCall C n) fr ⟨d, .call ⟨.value (.tmp i), as, ts⟩, ty, p, af, g⟩ h = some (v, h') := e
    simp only [evEff, evEffCall, ev1] at e
    obtain ⟨w, hw, e⟩ := Option.bind_eq_some_iff.1 e
    refine ⟨w, hw, ?_⟩
    split at e
    · obtain ⟨vs, h1, h2⟩ := Option.bind_eq_some_iff.1 e
      exact ⟨vs, h1, v, h', ⟨n, h2⟩, q⟩
    · cases e
  · unfold kFn at k
    split at k
    · obtain ⟨vs, h1, v, h', ⟨n, r⟩, q⟩ := k
      refine ⟨n, v, h', ?_, q⟩
      unfold evOp
      rw [hk]
      simp only [evEff, evEffCall, ev1, hw, Option.bind_some, h1]
      exact r
    · exact k.elim
theorem P_makeFunc {f : FuncId} {first captured : Array Operand} : WpP C ⟨d, .makeFunc (.func f) first captured, ty, p, af, g⟩ fr h Q = onSome (evs fr first.toList) fun fs => onSome (evs fr captured.toList) fun cs => Q (.func (.func f) fs.toArray cs.toArray) h := by
  rw [propext (WpP_pure rfl)]
  show onSome _ _ = _
  simp only [evPure, onSome_bind, onSome_some]
end
end Go.Ev
