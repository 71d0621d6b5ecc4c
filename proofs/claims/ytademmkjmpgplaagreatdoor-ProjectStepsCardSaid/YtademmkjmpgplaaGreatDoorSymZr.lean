/- Layer: a pool of one row is a row of one's own that a variable's cell holds. -/
import Derived.Test.YtademmkjmpgplaaGreatDoorSymZq
set_option linter.unusedSimpArgs false
set_option linter.unusedVariables false
set_option linter.unusedSectionVars false
namespace Go.Sy
open Go.RowKit
section
variable {C : Ctx} {n : Nat} {tm : TM} {mm : MM} {f : FuncId} {R : Ending → World → Prop} {k : List Item}
end
/-! ### Where control is; ways that meet again -/
section
variable {C : Ctx} {n : Nat} {tm : TM} {mm : MM} {f : FuncId} {R : Ending → World → Prop} {k : List Item}
def headI : List Item → Option Nat
  | .code (.region i _ _) :: _ => some i
  | .code (.seq (.region i _ _) _) :: _ => some i
  | _ => none
theorem g_atR (i : Nat) (_ : headI k = some i) (h : Goes C f n R k tm mm) : Goes C f n R k tm mm := h
end
section
variable {C : Ctx} {n : Nat} {tm : TM} {mm : MM} {f : FuncId} {R : Ending → World → Prop} {k : List Item}
end
theorem le_lit {a b : Bool} (h : a = b) : LeT (.v (.one (.lit a))) (.v (.one (.c (.bool b)))) := by subst h; exact .v (.one (.lit _))
end Go.Sy
