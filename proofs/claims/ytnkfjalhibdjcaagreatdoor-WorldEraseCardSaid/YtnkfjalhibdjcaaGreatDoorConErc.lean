/- Texts joined: what the claim needs of them. No condition. -/
import Derived.Test.YtnkfjalhibdjcaaGreatDoorBin5
namespace Go.Proofs.YtnkfjalhibdjcaaGreatDoor
open Go Go.Ev
set_option linter.unusedSimpArgs false
set_option linter.unusedVariables false
set_option maxRecDepth 1000000
theorem erase_5f : eraseP 5 false := fun _ _ _ _ _ => by kernel_rfl
theorem erase_5t : eraseP 5 true := fun _ _ _ _ _ => by kernel_rfl
theorem erase_6f : eraseP 6 false := fun _ _ _ _ _ => by kernel_rfl
theorem erase_6t : eraseP 6 true := fun _ _ _ _ _ => by kernel_rfl
end Go.Proofs.YtnkfjalhibdjcaaGreatDoor
