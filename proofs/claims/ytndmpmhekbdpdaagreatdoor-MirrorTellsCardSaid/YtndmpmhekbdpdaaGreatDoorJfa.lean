/- Facts of the whole program that a card asks for, each proved alone (together they do not fit into the memory of one proof). -/
import Derived.Test.YtndmpmhekbdpdaaGreatDoorRows
import Derived.Test.YtndmpmhekbdpdaaGreatDoorChecked
import Derived.JoinedCond
import Derived.JoinedOf
import Derived.KernelRfl
set_option linter.unusedSimpArgs false
set_option linter.unusedVariables false
set_option linter.unusedSectionVars false
namespace Go.Sy
open Go.Proofs Go.Proofs.YtndmpmhekbdpdaaGreatDoor
set_option maxRecDepth 100000
theorem j_heard : Tryz.pinned.checked.prog.stopsHeard = true := by kernel_rfl
theorem j_enter : Tryz.pinned.checked.prog.mayEnter = true := by kernel_rfl
theorem j_lift : (false == Tryz.pinned.checked.prog.liftsFinal) = true := by kernel_rfl
theorem j_make : (Tryz.pinned.checked.prog.make == some Make.cut) = true := by kernel_rfl
theorem j_main : Tryz.pinned.checked.prog.mainIs = some (true, "5ffb23adbd4ee4cee643a9d8640b92f6591f6249854b8dd84d3386c79a642a18".toList) := by kernel_rfl
end Go.Sy
