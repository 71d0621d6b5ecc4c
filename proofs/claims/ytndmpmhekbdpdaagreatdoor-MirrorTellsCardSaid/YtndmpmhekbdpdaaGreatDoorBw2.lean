/- Contracts of the reference, bundle Bw2. -/
import Derived.Test.YtndmpmhekbdpdaaGreatDoorBw1
import Derived.Test.YtndmpmhekbdpdaaGreatDoorBv1
import Derived.Test.YtndmpmhekbdpdaaGreatDoorBl2
import Derived.Test.YtndmpmhekbdpdaaGreatDoorMj4
import Derived.Test.YtndmpmhekbdpdaaGreatDoorBn1
set_option linter.unusedSimpArgs false
set_option linter.unusedVariables false
set_option linter.unusedSectionVars false
namespace Go.Sy
open Go.Proofs Go.Shelf Go.RowKit Go.Sort
set_option maxRecDepth 100000
attribute [local irreducible] SOps Goes DOps EOps FOps
section
variable {C : Ctx} {n : Nat} {tm : TM} {mm : MM} {L l : List Oper} {T : TM → MM → Prop} {o : Oper} {d : Nat} {x y p q : Operand} {ty : TypeId}
end
section
variable {C : Ctx} {n : Nat} {tm tm0 : TM} {mm0 : MM} {L l : List Oper} {R : TM → Prop} {T : TM → MM → Prop} {o : Oper} {d i : Nat} {p q : Operand} {ty : TypeId}
end
end Go.Sy
namespace Go.Sy
open Go.Proofs
set_option maxRecDepth 100000
attribute [local irreducible] SOps Goes DOps EOps FOps
end Go.Sy
namespace Go.Sy
open Go.Proofs
set_option maxRecDepth 100000
attribute [local irreducible] SOps Goes DOps EOps FOps
end Go.Sy
namespace Go.Sy
open Go.Proofs
set_option maxRecDepth 100000
attribute [local irreducible] SOps Goes DOps EOps FOps
end Go.Sy
