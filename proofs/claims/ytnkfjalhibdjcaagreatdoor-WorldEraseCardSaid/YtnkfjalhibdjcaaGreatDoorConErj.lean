/- Texts joined: what the claim needs of them. No condition. -/
import Derived.Test.YtnkfjalhibdjcaaGreatDoorBin5
namespace Go.Proofs.YtnkfjalhibdjcaaGreatDoor
open Go Go.Ev
set_option linter.unusedSimpArgs false
set_option linter.unusedVariables false
set_option maxRecDepth 1000000
theorem erase_19f : eraseP 19 false := fun _ _ _ _ _ => by kernel_rfl
theorem erase_19t : eraseP 19 true := fun _ _ _ _ _ => by kernel_rfl
theorem erase_20f : eraseP 20 false := fun _ _ _ _ _ => by kernel_rfl
theorem erase_20t : eraseP 20 true := fun _ _ _ _ _ => by kernel_rfl
end Go.Proofs.YtnkfjalhibdjcaaGreatDoor
