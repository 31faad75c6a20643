/- Texts joined: what the claim needs of them. No condition. -/
import Derived.Test.YtnkfjalhibdjcaaGreatDoorBin5
namespace Go.Proofs.YtnkfjalhibdjcaaGreatDoor
open Go Go.Ev
set_option linter.unusedSimpArgs false
set_option linter.unusedVariables false
set_option maxRecDepth 1000000
theorem erase_7f : eraseP 7 false := fun _ _ _ _ _ => by kernel_rfl
theorem erase_7t : eraseP 7 true := fun _ _ _ _ _ => by kernel_rfl
theorem erase_8f : eraseP 8 false := fun _ _ _ _ _ => by kernel_rfl
theorem erase_8t : eraseP 8 true := fun _ _ _ _ _ => by kernel_rfl
end Go.Proofs.YtnkfjalhibdjcaaGreatDoor
