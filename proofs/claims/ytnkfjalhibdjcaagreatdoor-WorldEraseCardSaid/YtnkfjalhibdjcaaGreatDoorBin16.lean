/- Texts joined: what the claim needs of them. No condition. -/
import Derived.Test.YtnkfjalhibdjcaaGreatDoorBin5
import Derived.Test.YtnkfjalhibdjcaaGreatDoorConEra
import Derived.Test.YtnkfjalhibdjcaaGreatDoorConErb
import Derived.Test.YtnkfjalhibdjcaaGreatDoorConErc
import Derived.Test.YtnkfjalhibdjcaaGreatDoorConErd
import Derived.Test.YtnkfjalhibdjcaaGreatDoorConEre
import Derived.Test.YtnkfjalhibdjcaaGreatDoorConErf
import Derived.Test.YtnkfjalhibdjcaaGreatDoorConErg
import Derived.Test.YtnkfjalhibdjcaaGreatDoorConErh
import Derived.Test.YtnkfjalhibdjcaaGreatDoorConEri
import Derived.Test.YtnkfjalhibdjcaaGreatDoorConErj
namespace Go.Proofs.YtnkfjalhibdjcaaGreatDoor
open Go Go.Ev Go.RowKit
set_option linter.unusedSimpArgs false
set_option linter.unusedVariables false
set_option maxRecDepth 1000000
theorem kon_from0 {w0 : World} (h : w0.ShapedOpen Tryz.prog) : CtxOK kon (From m0 h0 w0) (regOk kon.P) :=
  kon_ok fun _ _ _ i => (maxLen h).imp fun _ e => i.cell0 e
theorem closed_meets {C : Ctx} {w0 : World} (hC : CtxOK C (From m0 h0 w0) (regOk C.P)) (hmix : C.P.follows .mixedOrders = true) {f : Nat} {args : List Value} (ha : args.all flat = true) {b : Bool}
    (e : Meets C f args h0 fun v _ => v = .bool b) : Calls C.P f args.toArray w0 fun e w' => e = .returned (.bool b) ∧ Go.RowKit.Below w0.heap.size w0 w' := by
  obtain ⟨v, h', ⟨n, e⟩, rfl⟩ := e
  exact closed_args hC hmix (n := n) ha (by rw [e]; rfl)
end Go.Proofs.YtnkfjalhibdjcaaGreatDoor
namespace Go.Proofs.YtnkfjalhibdjcaaGreatDoor
open Go Go.Ev Go.RowKit
set_option linter.unusedSimpArgs false
set_option linter.unusedVariables false
set_option maxRecDepth 1000000
theorem erase_all (k : Nat) (hk : k ≤ 19) (b : Bool) : eraseP ((1 + k : Nat) : Int) b := by
  cases b
  · match k, hk with
    | 0, _ => exact erase_1f
    | 1, _ => exact erase_2f
    | 2, _ => exact erase_3f
    | 3, _ => exact erase_4f
    | 4, _ => exact erase_5f
    | 5, _ => exact erase_6f
    | 6, _ => exact erase_7f
    | 7, _ => exact erase_8f
    | 8, _ => exact erase_9f
    | 9, _ => exact erase_10f
    | 10, _ => exact erase_11f
    | 11, _ => exact erase_12f
    | 12, _ => exact erase_13f
    | 13, _ => exact erase_14f
    | 14, _ => exact erase_15f
    | 15, _ => exact erase_16f
    | 16, _ => exact erase_17f
    | 17, _ => exact erase_18f
    | 18, _ => exact erase_19f
    | 19, _ => exact erase_20f
    | k + 20, h => omega
  · match k, hk with
    | 0, _ => exact erase_1t
    | 1, _ => exact erase_2t
    | 2, _ => exact erase_3t
    | 3, _ => exact erase_4t
    | 4, _ => exact erase_5t
    | 5, _ => exact erase_6t
    | 6, _ => exact erase_7t
    | 7, _ => exact erase_8t
    | 8, _ => exact erase_9t
    | 9, _ => exact erase_10t
    | 10, _ => exact erase_11t
    | 11, _ => exact erase_12t
    | 12, _ => exact erase_13t
    | 13, _ => exact erase_14t
    | 14, _ => exact erase_15t
    | 15, _ => exact erase_16t
    | 16, _ => exact erase_17t
    | 17, _ => exact erase_18t
    | 18, _ => exact erase_19t
    | 19, _ => exact erase_20t
    | k + 20, h => omega
theorem wrapE {x : Int} (h1 : 0 ≤ x) (h2 : x ≤ 1000) : IntKind.i64.wrap x = x := by
  simp [IntKind.wrap, IntKind.signed, IntKind.bits]; omega
theorem worldErase_true (n : UInt8) (b : Bool) (v : Int) : Meets kon 3 [.int .u8 n.toNat, .bool b, .int .u16 v] h0 fun v _ => v = .bool true := by
  refine Meets.mk rfl (by kernel_rfl) Tryz.func3 rfl (congrArg Array.toList Tryz.results3) ?_
  have n0 := n.toNat_lt
  have wn : IntKind.i64.wrap (n.toNat : Int) = (n.toNat : Int) := wrapE (by omega) (by omega)
  have r20 : (n.toNat : Int).tmod 20 = ((n.toNat % 20 : Nat) : Int) := by rw [Int.tmod_eq_emod_of_nonneg (by omega)]; omega
  have hd := erase_head (n.toNat : Int) b v
  rw [wn, r20] at hd
  generalize hk : n.toNat % 20 = k at hd
  have hk19 : k ≤ 19 := by omega
  rw [show IntKind.i64.wrap (1 + (k : Int)) = ((1 + k : Nat) : Int) by rw [wrapE (by omega) (by omega)]; omega] at hd
  have e1 := runE_split 300 6 eraseC _ _ _ _ hd
  have e3 := erase_all k hk19 b (n.toNat : Int) v (n.toNat : Int) (n.toNat : Int) (k : Int)
  obtain ⟨ex, fr', h', hex, he, e3⟩ := erase_out e3
  rw [he, runE_eq] at e1
  rcases hex with rfl | rfl
  · exact ⟨300, _, _, _, e1, _, e3, rfl⟩
  · exact ⟨300, _, _, _, e1, _, e3, rfl⟩
end Go.Proofs.YtnkfjalhibdjcaaGreatDoor
