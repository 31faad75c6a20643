/- Texts joined: what the claim needs of them. No condition. -/
import Derived.Test.YtncmgiddcefpcaaDoorRows
import Derived.JoinedOf
import Derived.SevenTiedAt
namespace Go.Proofs.YtncmgiddcefpcaaDoor
open Go
set_option maxRecDepth 100000
theorem fact1 : (laidOutB Tryd.pinned.checked.prog) = true := by kernel_rfl
theorem fact2 : (mapsRowed Tryd.pinned.checked.prog) = true := by kernel_rfl
theorem fact6 : ((Tryd.pinned.checked.prog.stops == [])) = true := by kernel_rfl
theorem fact8 : ((Tryd.pinned.checked.prog.stopKnobs == [])) = true := by kernel_rfl
theorem fact22 : ((Rows.namesKnownRow.plainKeys == Tryd.pinned.checked.prog.plainKeys)) = true := by kernel_rfl
theorem fact24 : (Tryd.pinned.checked.prog.stopsHeard) = true := by kernel_rfl
theorem fact25 : (Tryd.pinned.checked.prog.mayEnter) = true := by kernel_rfl
theorem fact26 : ((Rows.namesKnownRow.lifted == Tryd.pinned.checked.prog.liftsFinal)) = true := by kernel_rfl
theorem fact27 : ((Tryd.pinned.checked.prog.make == some Rows.namesKnownRow.make)) = true := by kernel_rfl
theorem factLooks : false = Tryd.pinned.checked.prog.looks [] := by kernel_rfl
theorem factMain : Tryd.pinned.checked.prog.mainIs = some (true, "d816627b2ae0baf26f24d7b8848545fff235d33b422c6ccc3e0906bae9e4138d".toList) := by kernel_rfl
end Go.Proofs.YtncmgiddcefpcaaDoor
