/- Facts of the whole program that a card asks for, each proved alone (together they do not fit into the memory of one proof). -/
import Derived.Test.YtdjocfajcbhmgaaGreatDoorRows
import Derived.Test.YtdjocfajcbhmgaaGreatDoorChecked
import Derived.JoinedCond
import Derived.JoinedOf
import Derived.KernelRfl
set_option linter.unusedSimpArgs false
set_option linter.unusedVariables false
set_option linter.unusedSectionVars false
namespace Go.Sy
open Go.Proofs Go.Proofs.YtdjocfajcbhmgaaGreatDoor
set_option maxRecDepth 100000
theorem Ot:Tryz.pinned.checked.prog.stopsHeard=true:=by kernel_rfl
theorem Ou:Tryz.pinned.checked.prog.mayEnter=true:=by kernel_rfl
theorem RB:(false==Tryz.pinned.checked.prog.liftsFinal)=true:=by kernel_rfl
theorem Rz:(Tryz.pinned.checked.prog.make==some Make.cut)=true:=by kernel_rfl
theorem RA:Tryz.pinned.checked.prog.mainIs=some (true,"89d37c5e705a68fb1919c78c7dcabe3970529749269095921d42ca0bdc4fd160".toList):=by kernel_rfl
end Go.Sy
