/- WalkLinks: the rest of its code at 11 to 15 links, in a row and in a ring: by evaluation. -/
import Derived.Test.YtncmgiddcefpcaaDoorConW
namespace Go.Proofs.YtncmgiddcefpcaaDoor
open Go Go.Ev
set_option linter.unusedSimpArgs false
set_option linter.unusedVariables false
set_option maxRecDepth 1000000
theorem links_11f : linksV 11 false := fun _ _ _ _ => by kernel_rfl
theorem links_11t : linksV 11 true := fun _ _ _ _ => by kernel_rfl
theorem links_12f : linksV 12 false := fun _ _ _ _ => by kernel_rfl
theorem links_12t : linksV 12 true := fun _ _ _ _ => by kernel_rfl
theorem links_13f : linksV 13 false := fun _ _ _ _ => by kernel_rfl
theorem links_13t : linksV 13 true := fun _ _ _ _ => by kernel_rfl
theorem links_14f : linksV 14 false := fun _ _ _ _ => by kernel_rfl
theorem links_14t : linksV 14 true := fun _ _ _ _ => by kernel_rfl
theorem links_15f : linksV 15 false := fun _ _ _ _ => by kernel_rfl
theorem links_15t : linksV 15 true := fun _ _ _ _ => by kernel_rfl
end Go.Proofs.YtncmgiddcefpcaaDoor
