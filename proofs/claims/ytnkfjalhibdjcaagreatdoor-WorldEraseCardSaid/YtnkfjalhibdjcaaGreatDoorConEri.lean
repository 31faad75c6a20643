/- Texts joined: what the claim needs of them. No condition. -/
import Derived.Test.YtnkfjalhibdjcaaGreatDoorBin5
namespace Go.Proofs.YtnkfjalhibdjcaaGreatDoor
open Go Go.Ev
set_option linter.unusedSimpArgs false
set_option linter.unusedVariables false
set_option maxRecDepth 1000000
theorem erase_17f : eraseP 17 false := fun _ _ _ _ _ => by kernel_rfl
theorem erase_17t : eraseP 17 true := fun _ _ _ _ _ => by kernel_rfl
theorem erase_18f : eraseP 18 false := fun _ _ _ _ _ => by kernel_rfl
theorem erase_18t : eraseP 18 true := fun _ _ _ _ _ => by kernel_rfl
end Go.Proofs.YtnkfjalhibdjcaaGreatDoor
