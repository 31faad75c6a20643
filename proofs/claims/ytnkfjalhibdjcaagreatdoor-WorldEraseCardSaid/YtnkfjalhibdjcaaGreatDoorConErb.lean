/- Texts joined: what the claim needs of them. No condition. -/
import Derived.Test.YtnkfjalhibdjcaaGreatDoorBin5
namespace Go.Proofs.YtnkfjalhibdjcaaGreatDoor
open Go Go.Ev
set_option linter.unusedSimpArgs false
set_option linter.unusedVariables false
set_option maxRecDepth 1000000
theorem erase_3f : eraseP 3 false := fun _ _ _ _ _ => by kernel_rfl
theorem erase_3t : eraseP 3 true := fun _ _ _ _ _ => by kernel_rfl
theorem erase_4f : eraseP 4 false := fun _ _ _ _ _ => by kernel_rfl
theorem erase_4t : eraseP 4 true := fun _ _ _ _ _ => by kernel_rfl
end Go.Proofs.YtnkfjalhibdjcaaGreatDoor
