/- WalkLinks: the rest of its code at 1 to 5 links, in a row and in a ring: by evaluation. -/
import Derived.Test.YtncmgiddcefpcaaDoorConW
namespace Go.Proofs.YtncmgiddcefpcaaDoor
open Go Go.Ev
set_option linter.unusedSimpArgs false
set_option linter.unusedVariables false
set_option maxRecDepth 1000000
theorem links_1f : linksV 1 false := fun _ _ _ _ => by kernel_rfl
theorem links_1t : linksV 1 true := fun _ _ _ _ => by kernel_rfl
theorem links_2f : linksV 2 false := fun _ _ _ _ => by kernel_rfl
theorem links_2t : linksV 2 true := fun _ _ _ _ => by kernel_rfl
theorem links_3f : linksV 3 false := fun _ _ _ _ => by kernel_rfl
theorem links_3t : linksV 3 true := fun _ _ _ _ => by kernel_rfl
theorem links_4f : linksV 4 false := fun _ _ _ _ => by kernel_rfl
theorem links_4t : linksV 4 true := fun _ _ _ _ => by kernel_rfl
theorem links_5f : linksV 5 false := fun _ _ _ _ => by kernel_rfl
theorem links_5t : linksV 5 true := fun _ _ _ _ => by kernel_rfl
end Go.Proofs.YtncmgiddcefpcaaDoor
