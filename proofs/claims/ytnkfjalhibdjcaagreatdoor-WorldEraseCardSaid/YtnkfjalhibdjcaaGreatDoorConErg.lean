/- Texts joined: what the claim needs of them. No condition. -/
import Derived.Test.YtnkfjalhibdjcaaGreatDoorBin5
namespace Go.Proofs.YtnkfjalhibdjcaaGreatDoor
open Go Go.Ev
set_option linter.unusedSimpArgs false
set_option linter.unusedVariables false
set_option maxRecDepth 1000000
theorem erase_13f : eraseP 13 false := fun _ _ _ _ _ => by kernel_rfl
theorem erase_13t : eraseP 13 true := fun _ _ _ _ _ => by kernel_rfl
theorem erase_14f : eraseP 14 false := fun _ _ _ _ _ => by kernel_rfl
theorem erase_14t : eraseP 14 true := fun _ _ _ _ _ => by kernel_rfl
end Go.Proofs.YtnkfjalhibdjcaaGreatDoor
