/- Texts joined: what the claim needs of them. No condition. -/
import Derived.Test.YtnkfjalhibdjcaaGreatDoorBin5
namespace Go.Proofs.YtnkfjalhibdjcaaGreatDoor
open Go Go.Ev
set_option linter.unusedSimpArgs false
set_option linter.unusedVariables false
set_option maxRecDepth 1000000
theorem erase_11f : eraseP 11 false := fun _ _ _ _ _ => by kernel_rfl
theorem erase_11t : eraseP 11 true := fun _ _ _ _ _ => by kernel_rfl
theorem erase_12f : eraseP 12 false := fun _ _ _ _ _ => by kernel_rfl
theorem erase_12t : eraseP 12 true := fun _ _ _ _ _ => by kernel_rfl
end Go.Proofs.YtnkfjalhibdjcaaGreatDoor
