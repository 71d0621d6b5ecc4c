/-
  DERIVED. GIVEN WITH THE SEED: THE CARDS: each row of YtdjocfajcbhmgaaGreatDoorRows.lean that lists a variable, with what it lists TIED to the program's text (the seventh form; the later family's looks); each row that meets fmt, with fmt's text TOLD by the authors' own Lean function (tested against real Go, not proved from fmt's source: count such statements apart). THE CARD IS WHAT COUNTS. Prove the row's statement (the work); the ties are given (YtdjocfajcbhmgaaGreatDoorTie.lean); close each card by the builder's one call (the guide's Derived/Test/ToyasCard.lean, 'card_holds'). Laid BY PROGRAM, IN A SANDBOX (cutbox-door.mjs). By AI agents, Wed Nov 11 2026. No macro, syntax, notation, axiom, sorry.
-/
import Derived.Test.YtdjocfajcbhmgaaGreatDoorRows
import GoSem.ClaimSeven
namespace Go.Proofs.YtdjocfajcbhmgaaGreatDoor
namespace Rows

/-- THE TIED CARD OF 'reparteelaw9.BookFaults'. -/
def bookFaultsCard : Claim7 := { stood := { row := bookFaultsRow, standIns := [], harness := (true, "89d37c5e705a68fb1919c78c7dcabe3970529749269095921d42ca0bdc4fd160"), looks := false }, kinds := [], alts := [], laidByText := true, laidKinds := [.data, .data, .data], laidTests := true, laidLooks := .later }
def BookFaultsCardSaid : Prop := Claim7.holds Tryz.pinned (.plain (OpenSpec.ofChange bookFaultsSpec)) bookFaultsCard

/-- THE TIED CARD OF 'reparteelaw9.BookMade'. -/
def bookMadeCard : Claim7 := { stood := { row := bookMadeRow, standIns := [], harness := (true, "89d37c5e705a68fb1919c78c7dcabe3970529749269095921d42ca0bdc4fd160"), looks := false }, kinds := [], alts := [], laidByText := true, laidKinds := [.data, .data, .data], laidTests := true, laidLooks := .later }
def BookMadeCardSaid : Prop := Claim7.holds Tryz.pinned (.plain (OpenSpec.ofChange bookMadeSpec)) bookMadeCard

/-- THE TIED CARD OF 'reparteelaw9.BookTurns'. -/
def bookTurnsCard : Claim7 := { stood := { row := bookTurnsRow, standIns := [], harness := (true, "89d37c5e705a68fb1919c78c7dcabe3970529749269095921d42ca0bdc4fd160"), looks := false }, kinds := [], alts := [], laidByText := true, laidKinds := [.data, .data, .data], laidTests := true, laidLooks := .later }
def BookTurnsCardSaid : Prop := Claim7.holds Tryz.pinned (.plain (OpenSpec.ofChange bookTurnsSpec)) bookTurnsCard

/-- THE TIED CARD OF 'reparteelaw11.UnderDropped'. -/
def underDroppedCard : Claim7 := { stood := { row := underDroppedRow, standIns := [], harness := (true, "89d37c5e705a68fb1919c78c7dcabe3970529749269095921d42ca0bdc4fd160"), looks := false }, kinds := [], alts := [], laidByText := true, laidKinds := [.data, .data, .data], laidTests := true, laidLooks := .later }
def UnderDroppedCardSaid : Prop := Claim7.holds Tryz.pinned (.plain (OpenSpec.ofChange underDroppedSpec)) underDroppedCard

/-- THE TIED CARD OF 'reparteelaw13.StageFollows'. -/
def stageFollowsCard : Claim7 := { stood := { row := stageFollowsRow, standIns := [], harness := (true, "89d37c5e705a68fb1919c78c7dcabe3970529749269095921d42ca0bdc4fd160"), looks := false }, kinds := [], alts := [], laidByText := true, laidKinds := [.data, .data, .data], laidTests := true, laidLooks := .later }
def StageFollowsCardSaid : Prop := Claim7.holds Tryz.pinned (.plain (OpenSpec.ofChange stageFollowsSpec)) stageFollowsCard

/-- THE TIED CARD OF 'reparteelaw13.StageMirrors'. -/
def stageMirrorsCard : Claim7 := { stood := { row := stageMirrorsRow, standIns := [], harness := (true, "89d37c5e705a68fb1919c78c7dcabe3970529749269095921d42ca0bdc4fd160"), looks := false }, kinds := [], alts := [], laidByText := true, laidKinds := [.data, .data, .data], laidTests := true, laidLooks := .later }
def StageMirrorsCardSaid : Prop := Claim7.holds Tryz.pinned (.plain (OpenSpec.ofChange stageMirrorsSpec)) stageMirrorsCard

/-- THE SECOND FORM's CARD OF 'reparteelaw9.BookFaults'. -/
def bookFaultsUptoCard : Claim7 := { stood := { row := bookFaultsUptoRow, standIns := [], harness := (true, "89d37c5e705a68fb1919c78c7dcabe3970529749269095921d42ca0bdc4fd160"), looks := false }, kinds := [], alts := [], laidByText := true, laidKinds := [.data, .data, .data], laidTests := true, laidLooks := .later }
def BookFaultsUptoCardSaid : Prop := Claim7.holds Tryz.pinned (.plain (OpenSpec.upto bookFaultsSpec)) bookFaultsUptoCard

/-- THE SECOND FORM's CARD OF 'reparteelaw9.BookMade'. -/
def bookMadeUptoCard : Claim7 := { stood := { row := bookMadeUptoRow, standIns := [], harness := (true, "89d37c5e705a68fb1919c78c7dcabe3970529749269095921d42ca0bdc4fd160"), looks := false }, kinds := [], alts := [], laidByText := true, laidKinds := [.data, .data, .data], laidTests := true, laidLooks := .later }
def BookMadeUptoCardSaid : Prop := Claim7.holds Tryz.pinned (.plain (OpenSpec.upto bookMadeSpec)) bookMadeUptoCard

/-- THE SECOND FORM's CARD OF 'reparteelaw9.BookTurns'. -/
def bookTurnsUptoCard : Claim7 := { stood := { row := bookTurnsUptoRow, standIns := [], harness := (true, "89d37c5e705a68fb1919c78c7dcabe3970529749269095921d42ca0bdc4fd160"), looks := false }, kinds := [], alts := [], laidByText := true, laidKinds := [.data, .data, .data], laidTests := true, laidLooks := .later }
def BookTurnsUptoCardSaid : Prop := Claim7.holds Tryz.pinned (.plain (OpenSpec.upto bookTurnsSpec)) bookTurnsUptoCard

/-- THE SECOND FORM's CARD OF 'reparteelaw11.UnderDropped'. -/
def underDroppedUptoCard : Claim7 := { stood := { row := underDroppedUptoRow, standIns := [], harness := (true, "89d37c5e705a68fb1919c78c7dcabe3970529749269095921d42ca0bdc4fd160"), looks := false }, kinds := [], alts := [], laidByText := true, laidKinds := [.data, .data, .data], laidTests := true, laidLooks := .later }
def UnderDroppedUptoCardSaid : Prop := Claim7.holds Tryz.pinned (.plain (OpenSpec.upto underDroppedSpec)) underDroppedUptoCard

/-- THE SECOND FORM's CARD OF 'reparteelaw13.StageFollows'. -/
def stageFollowsUptoCard : Claim7 := { stood := { row := stageFollowsUptoRow, standIns := [], harness := (true, "89d37c5e705a68fb1919c78c7dcabe3970529749269095921d42ca0bdc4fd160"), looks := false }, kinds := [], alts := [], laidByText := true, laidKinds := [.data, .data, .data], laidTests := true, laidLooks := .later }
def StageFollowsUptoCardSaid : Prop := Claim7.holds Tryz.pinned (.plain (OpenSpec.upto stageFollowsSpec)) stageFollowsUptoCard

/-- THE SECOND FORM's CARD OF 'reparteelaw13.StageMirrors'. -/
def stageMirrorsUptoCard : Claim7 := { stood := { row := stageMirrorsUptoRow, standIns := [], harness := (true, "89d37c5e705a68fb1919c78c7dcabe3970529749269095921d42ca0bdc4fd160"), looks := false }, kinds := [], alts := [], laidByText := true, laidKinds := [.data, .data, .data], laidTests := true, laidLooks := .later }
def StageMirrorsUptoCardSaid : Prop := Claim7.holds Tryz.pinned (.plain (OpenSpec.upto stageMirrorsSpec)) stageMirrorsUptoCard
end Rows
end Go.Proofs.YtdjocfajcbhmgaaGreatDoor
