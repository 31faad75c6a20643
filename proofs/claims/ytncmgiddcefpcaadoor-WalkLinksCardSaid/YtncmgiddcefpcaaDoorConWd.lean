/- WalkLinks: the rest of its code at 16 to 20 links, in a row and in a ring: by evaluation. -/
import Derived.Test.YtncmgiddcefpcaaDoorConW
namespace Go.Proofs.YtncmgiddcefpcaaDoor
open Go Go.Ev
set_option linter.unusedSimpArgs false
set_option linter.unusedVariables false
set_option maxRecDepth 1000000
theorem links_16f : linksV 16 false := fun _ _ _ _ => by kernel_rfl
theorem links_16t : linksV 16 true := fun _ _ _ _ => by kernel_rfl
theorem links_17f : linksV 17 false := fun _ _ _ _ => by kernel_rfl
theorem links_17t : linksV 17 true := fun _ _ _ _ => by kernel_rfl
theorem links_18f : linksV 18 false := fun _ _ _ _ => by kernel_rfl
theorem links_18t : linksV 18 true := fun _ _ _ _ => by kernel_rfl
theorem links_19f : linksV 19 false := fun _ _ _ _ => by kernel_rfl
theorem links_19t : linksV 19 true := fun _ _ _ _ => by kernel_rfl
theorem links_20f : linksV 20 false := fun _ _ _ _ => by kernel_rfl
theorem links_20t : linksV 20 true := fun _ _ _ _ => by kernel_rfl
end Go.Proofs.YtncmgiddcefpcaaDoor
