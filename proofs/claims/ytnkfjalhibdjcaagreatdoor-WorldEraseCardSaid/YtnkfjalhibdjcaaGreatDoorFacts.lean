/- Texts joined: what the claim needs of them. No condition. -/
import Derived.Test.YtnkfjalhibdjcaaGreatDoorRows
import Derived.JoinedOf
import Derived.SevenTiedAt
namespace Go.Proofs.YtnkfjalhibdjcaaGreatDoor
open Go
set_option maxRecDepth 100000
theorem fact1 : (laidOutB Tryz.pinned.checked.prog) = true := by kernel_rfl
theorem fact2 : (mapsRowed Tryz.pinned.checked.prog) = true := by kernel_rfl
theorem fact6 : ((Tryz.pinned.checked.prog.stops == [])) = true := by kernel_rfl
theorem fact8 : ((Tryz.pinned.checked.prog.stopKnobs == [])) = true := by kernel_rfl
theorem fact22 : ((Rows.worldEraseRow.plainKeys == Tryz.pinned.checked.prog.plainKeys)) = true := by kernel_rfl
theorem fact24 : (Tryz.pinned.checked.prog.stopsHeard) = true := by kernel_rfl
theorem fact25 : (Tryz.pinned.checked.prog.mayEnter) = true := by kernel_rfl
theorem fact26 : ((Rows.worldEraseRow.lifted == Tryz.pinned.checked.prog.liftsFinal)) = true := by kernel_rfl
theorem fact27 : ((Tryz.pinned.checked.prog.make == some Rows.worldEraseRow.make)) = true := by kernel_rfl
theorem factLooks : false = Tryz.pinned.checked.prog.looks [] := by kernel_rfl
theorem factMain : Tryz.pinned.checked.prog.mainIs = some (true, "02a6fa087fdf223748944943d3345d53090a62c4acdeb043b9723accd422348a".toList) := by kernel_rfl
end Go.Proofs.YtnkfjalhibdjcaaGreatDoor
