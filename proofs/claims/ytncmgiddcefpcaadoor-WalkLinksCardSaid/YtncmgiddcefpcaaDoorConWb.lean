/- WalkLinks: the rest of its code at 6 to 10 links, in a row and in a ring: by evaluation. -/
import Derived.Test.YtncmgiddcefpcaaDoorConW
namespace Go.Proofs.YtncmgiddcefpcaaDoor
open Go Go.Ev
set_option linter.unusedSimpArgs false
set_option linter.unusedVariables false
set_option maxRecDepth 1000000
theorem links_6f : linksV 6 false := fun _ _ _ _ => by kernel_rfl
theorem links_6t : linksV 6 true := fun _ _ _ _ => by kernel_rfl
theorem links_7f : linksV 7 false := fun _ _ _ _ => by kernel_rfl
theorem links_7t : linksV 7 true := fun _ _ _ _ => by kernel_rfl
theorem links_8f : linksV 8 false := fun _ _ _ _ => by kernel_rfl
theorem links_8t : linksV 8 true := fun _ _ _ _ => by kernel_rfl
theorem links_9f : linksV 9 false := fun _ _ _ _ => by kernel_rfl
theorem links_9t : linksV 9 true := fun _ _ _ _ => by kernel_rfl
theorem links_10f : linksV 10 false := fun _ _ _ _ => by kernel_rfl
theorem links_10t : linksV 10 true := fun _ _ _ _ => by kernel_rfl
end Go.Proofs.YtncmgiddcefpcaaDoor
