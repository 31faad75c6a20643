/- Texts joined: what the claim needs of them. No condition. -/
import Derived.Test.YtnkfjalhibdjcaaGreatDoorBin5
namespace Go.Proofs.YtnkfjalhibdjcaaGreatDoor
open Go Go.Ev
set_option linter.unusedSimpArgs false
set_option linter.unusedVariables false
set_option maxRecDepth 1000000
theorem erase_9f : eraseP 9 false := fun _ _ _ _ _ => by kernel_rfl
theorem erase_9t : eraseP 9 true := fun _ _ _ _ _ => by kernel_rfl
theorem erase_10f : eraseP 10 false := fun _ _ _ _ _ => by kernel_rfl
theorem erase_10t : eraseP 10 true := fun _ _ _ _ _ => by kernel_rfl
end Go.Proofs.YtnkfjalhibdjcaaGreatDoor
