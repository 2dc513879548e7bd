/- Closed facts of the program that each row asks for. -/
import Derived.Test.YtjiccnebfbpcgaaGreatDoorRows
import Derived.JoinedCond
set_option linter.unusedSimpArgs false
set_option linter.unusedVariables false
set_option linter.unusedSectionVars false
namespace Go.Proofs.YtjiccnebfbpcgaaGreatDoor.closed
theorem j2 : laidOutB Tryz.pinned.checked.prog = true := by kernel_rfl
theorem j3 : mapsRowed Tryz.pinned.checked.prog = true := by kernel_rfl
theorem j7 : (Tryz.pinned.checked.prog.stops == []) = true := by kernel_rfl
theorem j9 : (Tryz.pinned.checked.prog.stopKnobs == []) = true := by kernel_rfl
theorem j21 : Tryz.pinned.checked.prog.stopsHeard = true := by kernel_rfl
theorem j22 : Tryz.pinned.checked.prog.mayEnter = true := by kernel_rfl
theorem and2 {a b : Bool} (ha : a = true) (hb : b = true) : (a && b) = true := by rw [ha, hb]; rfl
end Go.Proofs.YtjiccnebfbpcgaaGreatDoor.closed
