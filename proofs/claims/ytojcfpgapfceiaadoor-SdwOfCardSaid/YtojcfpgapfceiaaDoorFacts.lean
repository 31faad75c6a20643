/- Texts joined: what the claim needs of them. No condition. -/
import Derived.Test.YtojcfpgapfceiaaDoorRows
import Derived.JoinedOf
import Derived.SevenTiedAt
namespace Go.Proofs.YtojcfpgapfceiaaDoor
open Go
set_option maxRecDepth 100000
theorem fact1 : (laidOutB Tryd.pinned.checked.prog) = true := by kernel_rfl
theorem fact2 : (mapsRowed Tryd.pinned.checked.prog) = true := by kernel_rfl
theorem fact6 : ((Tryd.pinned.checked.prog.stops == [])) = true := by kernel_rfl
theorem fact8 : ((Tryd.pinned.checked.prog.stopKnobs == [])) = true := by kernel_rfl
theorem fact22 : ((Rows.sdwOfRow.plainKeys == Tryd.pinned.checked.prog.plainKeys)) = true := by kernel_rfl
theorem fact24 : (Tryd.pinned.checked.prog.stopsHeard) = true := by kernel_rfl
theorem fact25 : (Tryd.pinned.checked.prog.mayEnter) = true := by kernel_rfl
theorem fact26 : ((Rows.sdwOfRow.lifted == Tryd.pinned.checked.prog.liftsFinal)) = true := by kernel_rfl
theorem fact27 : ((Tryd.pinned.checked.prog.make == some Rows.sdwOfRow.make)) = true := by kernel_rfl
theorem factLooks : false = Tryd.pinned.checked.prog.looks [] := by kernel_rfl
theorem factMain : Tryd.pinned.checked.prog.mainIs = some (true, "c3c0362a352168c21ac3cd4e849fcd462d2e830e9c464cf65bf48cbd0fd8f7aa".toList) := by kernel_rfl
end Go.Proofs.YtojcfpgapfceiaaDoor
