/- Texts joined: what the claim needs of them. No condition. -/
import Derived.Test.YtnkfjalhibdjcaaGreatDoorBin5
namespace Go.Proofs.YtnkfjalhibdjcaaGreatDoor
open Go Go.Ev
set_option linter.unusedSimpArgs false
set_option linter.unusedVariables false
set_option maxRecDepth 1000000
theorem erase_15f : eraseP 15 false := fun _ _ _ _ _ => by kernel_rfl
theorem erase_15t : eraseP 15 true := fun _ _ _ _ _ => by kernel_rfl
theorem erase_16f : eraseP 16 false := fun _ _ _ _ _ => by kernel_rfl
theorem erase_16t : eraseP 16 true := fun _ _ _ _ _ => by kernel_rfl
end Go.Proofs.YtnkfjalhibdjcaaGreatDoor
