/-
  DERIVED. GIVEN WITH THE SEED: THE CARDS: each row of YtdjocfajcbhmgaaDoorRows.lean that lists a variable, with what it lists TIED to the program's text (the seventh form; the later family's looks); each row that meets fmt, with fmt's text TOLD by the authors' own Lean function (tested against real Go, not proved from fmt's source: count such statements apart). THE CARD IS WHAT COUNTS. Prove the row's statement (the work); the ties are given (YtdjocfajcbhmgaaDoorTie.lean); close each card by the builder's one call (the guide's Derived/Test/ToyasCard.lean, 'card_holds'). Laid BY PROGRAM, IN A SANDBOX (cutbox-door.mjs). By AI agents, Wed Nov 11 2026. No macro, syntax, notation, axiom, sorry.
-/
import Derived.Test.YtdjocfajcbhmgaaDoorRows
import GoSem.ClaimSeven
namespace Go.Proofs.YtdjocfajcbhmgaaDoor
namespace Rows

/-- THE TIED CARD OF 'reparteelaw8.ProjectRefuses'. -/
def projectRefusesCard : Claim7 := { stood := { row := projectRefusesRow, standIns := [], harness := (true, "2ff017e499abc5abd0889a4ca3806159e10905d040c1ee876fdb613405d82541"), looks := false }, kinds := [], alts := [], laidByText := true, laidKinds := [.data, .data, .data], laidTests := true, laidLooks := .later }
def ProjectRefusesCardSaid : Prop := Claim7.holds Tryd.pinned (.plain (OpenSpec.ofChange projectRefusesSpec)) projectRefusesCard

/-- THE TIED CARD OF 'reparteelaw12.MirrorRefuses'. -/
def mirrorRefusesCard : Claim7 := { stood := { row := mirrorRefusesRow, standIns := [], harness := (true, "2ff017e499abc5abd0889a4ca3806159e10905d040c1ee876fdb613405d82541"), looks := false }, kinds := [], alts := [], laidByText := true, laidKinds := [.data, .data, .data], laidTests := true, laidLooks := .later }
def MirrorRefusesCardSaid : Prop := Claim7.holds Tryd.pinned (.plain (OpenSpec.ofChange mirrorRefusesSpec)) mirrorRefusesCard

/-- THE SECOND FORM's CARD OF 'reparteelaw8.ProjectRefuses'. -/
def projectRefusesUptoCard : Claim7 := { stood := { row := projectRefusesUptoRow, standIns := [], harness := (true, "2ff017e499abc5abd0889a4ca3806159e10905d040c1ee876fdb613405d82541"), looks := false }, kinds := [], alts := [], laidByText := true, laidKinds := [.data, .data, .data], laidTests := true, laidLooks := .later }
def ProjectRefusesUptoCardSaid : Prop := Claim7.holds Tryd.pinned (.plain (OpenSpec.upto projectRefusesSpec)) projectRefusesUptoCard

/-- THE SECOND FORM's CARD OF 'reparteelaw12.MirrorRefuses'. -/
def mirrorRefusesUptoCard : Claim7 := { stood := { row := mirrorRefusesUptoRow, standIns := [], harness := (true, "2ff017e499abc5abd0889a4ca3806159e10905d040c1ee876fdb613405d82541"), looks := false }, kinds := [], alts := [], laidByText := true, laidKinds := [.data, .data, .data], laidTests := true, laidLooks := .later }
def MirrorRefusesUptoCardSaid : Prop := Claim7.holds Tryd.pinned (.plain (OpenSpec.upto mirrorRefusesSpec)) mirrorRefusesUptoCard
end Rows
end Go.Proofs.YtdjocfajcbhmgaaDoor
