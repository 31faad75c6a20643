/- Texts joined: what the claim needs of them. No condition. -/
import Derived.Test.YtnkfjalhibdjcaaGreatDoorBin5
namespace Go.Proofs.YtnkfjalhibdjcaaGreatDoor
open Go Go.Ev
set_option linter.unusedSimpArgs false
set_option linter.unusedVariables false
set_option maxRecDepth 1000000
theorem erase_1f : eraseP 1 false := fun _ _ _ _ _ => by kernel_rfl
theorem erase_1t : eraseP 1 true := fun _ _ _ _ _ => by kernel_rfl
theorem erase_2f : eraseP 2 false := fun _ _ _ _ _ => by kernel_rfl
theorem erase_2t : eraseP 2 true := fun _ _ _ _ _ => by kernel_rfl
end Go.Proofs.YtnkfjalhibdjcaaGreatDoor
