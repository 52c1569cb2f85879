/- Proved: what the rows ask of the program alone: its types' order, its maps, its stops, its heads. -/
import Derived.Test.YtcnbpfecgokhiaaGreatDoorRows
import Derived.Test.YtcnbpfecgokhiaaGreatDoorDTb
import Derived.JoinedOf
import Derived.KernelRfl
set_option linter.unusedVariables false
set_option linter.unusedSimpArgs false
set_option linter.unnecessarySimpa false
set_option linter.unusedSectionVars false
namespace Go.Proofs.YtcnbpfecgokhiaaGreatDoor
open Go

theorem kLaid : laidOutB Tryz.pinned.checked.prog = true := by kernel_rfl
theorem kMaps : mapsRowed Tryz.pinned.checked.prog = true := by kernel_rfl
theorem kStops : (Tryz.pinned.checked.prog.stops == []) = true := by kernel_rfl
theorem kKnobs : (Tryz.pinned.checked.prog.stopKnobs == []) = true := by kernel_rfl
theorem kHeard : Tryz.pinned.checked.prog.stopsHeard = true := by kernel_rfl
theorem kEnter : Tryz.pinned.checked.prog.mayEnter = true := by kernel_rfl
theorem kPlain : Tryz.pinned.checked.prog.plainKeys = false := by kernel_rfl
theorem kLifts : Tryz.pinned.checked.prog.liftsFinal = false := by kernel_rfl

end Go.Proofs.YtcnbpfecgokhiaaGreatDoor
