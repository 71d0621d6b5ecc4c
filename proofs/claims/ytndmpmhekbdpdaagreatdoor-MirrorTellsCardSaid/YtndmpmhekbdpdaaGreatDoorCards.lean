/-
  DERIVED. GIVEN WITH THE SEED: THE CARDS: each row of YtndmpmhekbdpdaaGreatDoorRows.lean that lists a variable, with what it lists TIED to the program's text (the seventh form; the later family's looks); each row that meets fmt, with fmt's text TOLD by the authors' own Lean function (tested against real Go, not proved from fmt's source: count such statements apart). THE CARD IS WHAT COUNTS. Prove the row's statement (the work); the ties are given (YtndmpmhekbdpdaaGreatDoorTie.lean); close each card by the builder's one call (the guide's Derived/Test/ToyasCard.lean, 'card_holds'). Laid BY PROGRAM, IN A SANDBOX (cutbox-door.mjs). By AI agents, Wed Nov 11 2026. No macro, syntax, notation, axiom, sorry.
-/
import Derived.Test.YtndmpmhekbdpdaaGreatDoorRows
import GoSem.ClaimSeven
namespace Go.Proofs.YtndmpmhekbdpdaaGreatDoor
namespace Rows

/-- THE TIED CARD OF 'reparteelaw12.MirrorTells'. -/
def mirrorTellsCard : Claim7 := { stood := { row := mirrorTellsRow, standIns := [], harness := (true, "5ffb23adbd4ee4cee643a9d8640b92f6591f6249854b8dd84d3386c79a642a18"), looks := false }, kinds := [], alts := [], laidByText := true, laidKinds := [.data, .data, .data], laidTests := true, laidLooks := .later }
def MirrorTellsCardSaid : Prop := Claim7.holds Tryz.pinned (.plain (OpenSpec.ofChange mirrorTellsSpec)) mirrorTellsCard

/-- THE TIED CARD OF 'reparteelaw9.BookMore'. -/
def bookMoreCard : Claim7 := { stood := { row := bookMoreRow, standIns := [], harness := (true, "5ffb23adbd4ee4cee643a9d8640b92f6591f6249854b8dd84d3386c79a642a18"), looks := false }, kinds := [], alts := [], laidByText := true, laidKinds := [.data, .data, .data], laidTests := true, laidLooks := .later }
def BookMoreCardSaid : Prop := Claim7.holds Tryz.pinned (.plain (OpenSpec.ofChange bookMoreSpec)) bookMoreCard

/-- THE TIED CARD OF 'reparteelaw9.BookFaults'. -/
def bookFaultsCard : Claim7 := { stood := { row := bookFaultsRow, standIns := [], harness := (true, "5ffb23adbd4ee4cee643a9d8640b92f6591f6249854b8dd84d3386c79a642a18"), looks := false }, kinds := [], alts := [], laidByText := true, laidKinds := [.data, .data, .data], laidTests := true, laidLooks := .later }
def BookFaultsCardSaid : Prop := Claim7.holds Tryz.pinned (.plain (OpenSpec.ofChange bookFaultsSpec)) bookFaultsCard

/-- THE TIED CARD OF 'reparteelaw9.BookTells'. -/
def bookTellsCard : Claim7 := { stood := { row := bookTellsRow, standIns := [], harness := (true, "5ffb23adbd4ee4cee643a9d8640b92f6591f6249854b8dd84d3386c79a642a18"), looks := false }, kinds := [], alts := [], laidByText := true, laidKinds := [.data, .data, .data], laidTests := true, laidLooks := .later }
def BookTellsCardSaid : Prop := Claim7.holds Tryz.pinned (.plain (OpenSpec.ofChange bookTellsSpec)) bookTellsCard

/-- THE TIED CARD OF 'reparteelaw9.BookMade'. -/
def bookMadeCard : Claim7 := { stood := { row := bookMadeRow, standIns := [], harness := (true, "5ffb23adbd4ee4cee643a9d8640b92f6591f6249854b8dd84d3386c79a642a18"), looks := false }, kinds := [], alts := [], laidByText := true, laidKinds := [.data, .data, .data], laidTests := true, laidLooks := .later }
def BookMadeCardSaid : Prop := Claim7.holds Tryz.pinned (.plain (OpenSpec.ofChange bookMadeSpec)) bookMadeCard

/-- THE TIED CARD OF 'reparteelaw9.BookTurns'. -/
def bookTurnsCard : Claim7 := { stood := { row := bookTurnsRow, standIns := [], harness := (true, "5ffb23adbd4ee4cee643a9d8640b92f6591f6249854b8dd84d3386c79a642a18"), looks := false }, kinds := [], alts := [], laidByText := true, laidKinds := [.data, .data, .data], laidTests := true, laidLooks := .later }
def BookTurnsCardSaid : Prop := Claim7.holds Tryz.pinned (.plain (OpenSpec.ofChange bookTurnsSpec)) bookTurnsCard

/-- THE TIED CARD OF 'reparteelaw11.UnderDropped'. -/
def underDroppedCard : Claim7 := { stood := { row := underDroppedRow, standIns := [], harness := (true, "5ffb23adbd4ee4cee643a9d8640b92f6591f6249854b8dd84d3386c79a642a18"), looks := false }, kinds := [], alts := [], laidByText := true, laidKinds := [.data, .data, .data], laidTests := true, laidLooks := .later }
def UnderDroppedCardSaid : Prop := Claim7.holds Tryz.pinned (.plain (OpenSpec.ofChange underDroppedSpec)) underDroppedCard

/-- THE TIED CARD OF 'reparteelaw11.UnderAbove'. -/
def underAboveCard : Claim7 := { stood := { row := underAboveRow, standIns := [], harness := (true, "5ffb23adbd4ee4cee643a9d8640b92f6591f6249854b8dd84d3386c79a642a18"), looks := false }, kinds := [], alts := [], laidByText := true, laidKinds := [.data, .data, .data], laidTests := true, laidLooks := .later }
def UnderAboveCardSaid : Prop := Claim7.holds Tryz.pinned (.plain (OpenSpec.ofChange underAboveSpec)) underAboveCard

/-- THE TIED CARD OF 'reparteelaw10.EqualUnrolls'. -/
def equalUnrollsCard : Claim7 := { stood := { row := equalUnrollsRow, standIns := [], harness := (true, "5ffb23adbd4ee4cee643a9d8640b92f6591f6249854b8dd84d3386c79a642a18"), looks := false }, kinds := [], alts := [], laidByText := true, laidKinds := [.data, .data, .data], laidTests := true, laidLooks := .later }
def EqualUnrollsCardSaid : Prop := Claim7.holds Tryz.pinned (.plain (OpenSpec.ofChange equalUnrollsSpec)) equalUnrollsCard

/-- THE TIED CARD OF 'reparteelaw10.EqualKeeps'. -/
def equalKeepsCard : Claim7 := { stood := { row := equalKeepsRow, standIns := [], harness := (true, "5ffb23adbd4ee4cee643a9d8640b92f6591f6249854b8dd84d3386c79a642a18"), looks := false }, kinds := [], alts := [], laidByText := true, laidKinds := [.data, .data, .data], laidTests := true, laidLooks := .later }
def EqualKeepsCardSaid : Prop := Claim7.holds Tryz.pinned (.plain (OpenSpec.ofChange equalKeepsSpec)) equalKeepsCard

/-- THE TIED CARD OF 'reparteelaw13.StageCounts'. -/
def stageCountsCard : Claim7 := { stood := { row := stageCountsRow, standIns := [], harness := (true, "5ffb23adbd4ee4cee643a9d8640b92f6591f6249854b8dd84d3386c79a642a18"), looks := false }, kinds := [], alts := [], laidByText := true, laidKinds := [.data, .data, .data], laidTests := true, laidLooks := .later }
def StageCountsCardSaid : Prop := Claim7.holds Tryz.pinned (.plain (OpenSpec.ofChange stageCountsSpec)) stageCountsCard

/-- THE TIED CARD OF 'reparteelaw13.StageFollows'. -/
def stageFollowsCard : Claim7 := { stood := { row := stageFollowsRow, standIns := [], harness := (true, "5ffb23adbd4ee4cee643a9d8640b92f6591f6249854b8dd84d3386c79a642a18"), looks := false }, kinds := [], alts := [], laidByText := true, laidKinds := [.data, .data, .data], laidTests := true, laidLooks := .later }
def StageFollowsCardSaid : Prop := Claim7.holds Tryz.pinned (.plain (OpenSpec.ofChange stageFollowsSpec)) stageFollowsCard

/-- THE TIED CARD OF 'reparteelaw13.StageMirrors'. -/
def stageMirrorsCard : Claim7 := { stood := { row := stageMirrorsRow, standIns := [], harness := (true, "5ffb23adbd4ee4cee643a9d8640b92f6591f6249854b8dd84d3386c79a642a18"), looks := false }, kinds := [], alts := [], laidByText := true, laidKinds := [.data, .data, .data], laidTests := true, laidLooks := .later }
def StageMirrorsCardSaid : Prop := Claim7.holds Tryz.pinned (.plain (OpenSpec.ofChange stageMirrorsSpec)) stageMirrorsCard

/-- THE TIED CARD OF 'reparteelaw14.ProbeUnder'. -/
def probeUnderCard : Claim7 := { stood := { row := probeUnderRow, standIns := [], harness := (true, "5ffb23adbd4ee4cee643a9d8640b92f6591f6249854b8dd84d3386c79a642a18"), looks := false }, kinds := [], alts := [], laidByText := true, laidKinds := [.data, .data, .data], laidTests := true, laidLooks := .later }
def ProbeUnderCardSaid : Prop := Claim7.holds Tryz.pinned (.plain (OpenSpec.ofChange probeUnderSpec)) probeUnderCard

/-- THE TIED CARD OF 'reparteelaw14.ProbeIdle'. -/
def probeIdleCard : Claim7 := { stood := { row := probeIdleRow, standIns := [], harness := (true, "5ffb23adbd4ee4cee643a9d8640b92f6591f6249854b8dd84d3386c79a642a18"), looks := false }, kinds := [], alts := [], laidByText := true, laidKinds := [.data, .data, .data], laidTests := true, laidLooks := .later }
def ProbeIdleCardSaid : Prop := Claim7.holds Tryz.pinned (.plain (OpenSpec.ofChange probeIdleSpec)) probeIdleCard

/-- THE TIED CARD OF 'reparteelaw14.ProbeSound'. -/
def probeSoundCard : Claim7 := { stood := { row := probeSoundRow, standIns := [], harness := (true, "5ffb23adbd4ee4cee643a9d8640b92f6591f6249854b8dd84d3386c79a642a18"), looks := false }, kinds := [], alts := [], laidByText := true, laidKinds := [.data, .data, .data], laidTests := true, laidLooks := .later }
def ProbeSoundCardSaid : Prop := Claim7.holds Tryz.pinned (.plain (OpenSpec.ofChange probeSoundSpec)) probeSoundCard

/-- THE SECOND FORM's CARD OF 'reparteelaw12.MirrorTells'. -/
def mirrorTellsUptoCard : Claim7 := { stood := { row := mirrorTellsUptoRow, standIns := [], harness := (true, "5ffb23adbd4ee4cee643a9d8640b92f6591f6249854b8dd84d3386c79a642a18"), looks := false }, kinds := [], alts := [], laidByText := true, laidKinds := [.data, .data, .data], laidTests := true, laidLooks := .later }
def MirrorTellsUptoCardSaid : Prop := Claim7.holds Tryz.pinned (.plain (OpenSpec.upto mirrorTellsSpec)) mirrorTellsUptoCard

/-- THE SECOND FORM's CARD OF 'reparteelaw9.BookMore'. -/
def bookMoreUptoCard : Claim7 := { stood := { row := bookMoreUptoRow, standIns := [], harness := (true, "5ffb23adbd4ee4cee643a9d8640b92f6591f6249854b8dd84d3386c79a642a18"), looks := false }, kinds := [], alts := [], laidByText := true, laidKinds := [.data, .data, .data], laidTests := true, laidLooks := .later }
def BookMoreUptoCardSaid : Prop := Claim7.holds Tryz.pinned (.plain (OpenSpec.upto bookMoreSpec)) bookMoreUptoCard

/-- THE SECOND FORM's CARD OF 'reparteelaw9.BookFaults'. -/
def bookFaultsUptoCard : Claim7 := { stood := { row := bookFaultsUptoRow, standIns := [], harness := (true, "5ffb23adbd4ee4cee643a9d8640b92f6591f6249854b8dd84d3386c79a642a18"), looks := false }, kinds := [], alts := [], laidByText := true, laidKinds := [.data, .data, .data], laidTests := true, laidLooks := .later }
def BookFaultsUptoCardSaid : Prop := Claim7.holds Tryz.pinned (.plain (OpenSpec.upto bookFaultsSpec)) bookFaultsUptoCard

/-- THE SECOND FORM's CARD OF 'reparteelaw9.BookTells'. -/
def bookTellsUptoCard : Claim7 := { stood := { row := bookTellsUptoRow, standIns := [], harness := (true, "5ffb23adbd4ee4cee643a9d8640b92f6591f6249854b8dd84d3386c79a642a18"), looks := false }, kinds := [], alts := [], laidByText := true, laidKinds := [.data, .data, .data], laidTests := true, laidLooks := .later }
def BookTellsUptoCardSaid : Prop := Claim7.holds Tryz.pinned (.plain (OpenSpec.upto bookTellsSpec)) bookTellsUptoCard

/-- THE SECOND FORM's CARD OF 'reparteelaw9.BookMade'. -/
def bookMadeUptoCard : Claim7 := { stood := { row := bookMadeUptoRow, standIns := [], harness := (true, "5ffb23adbd4ee4cee643a9d8640b92f6591f6249854b8dd84d3386c79a642a18"), looks := false }, kinds := [], alts := [], laidByText := true, laidKinds := [.data, .data, .data], laidTests := true, laidLooks := .later }
def BookMadeUptoCardSaid : Prop := Claim7.holds Tryz.pinned (.plain (OpenSpec.upto bookMadeSpec)) bookMadeUptoCard

/-- THE SECOND FORM's CARD OF 'reparteelaw9.BookTurns'. -/
def bookTurnsUptoCard : Claim7 := { stood := { row := bookTurnsUptoRow, standIns := [], harness := (true, "5ffb23adbd4ee4cee643a9d8640b92f6591f6249854b8dd84d3386c79a642a18"), looks := false }, kinds := [], alts := [], laidByText := true, laidKinds := [.data, .data, .data], laidTests := true, laidLooks := .later }
def BookTurnsUptoCardSaid : Prop := Claim7.holds Tryz.pinned (.plain (OpenSpec.upto bookTurnsSpec)) bookTurnsUptoCard

/-- THE SECOND FORM's CARD OF 'reparteelaw11.UnderDropped'. -/
def underDroppedUptoCard : Claim7 := { stood := { row := underDroppedUptoRow, standIns := [], harness := (true, "5ffb23adbd4ee4cee643a9d8640b92f6591f6249854b8dd84d3386c79a642a18"), looks := false }, kinds := [], alts := [], laidByText := true, laidKinds := [.data, .data, .data], laidTests := true, laidLooks := .later }
def UnderDroppedUptoCardSaid : Prop := Claim7.holds Tryz.pinned (.plain (OpenSpec.upto underDroppedSpec)) underDroppedUptoCard

/-- THE SECOND FORM's CARD OF 'reparteelaw11.UnderAbove'. -/
def underAboveUptoCard : Claim7 := { stood := { row := underAboveUptoRow, standIns := [], harness := (true, "5ffb23adbd4ee4cee643a9d8640b92f6591f6249854b8dd84d3386c79a642a18"), looks := false }, kinds := [], alts := [], laidByText := true, laidKinds := [.data, .data, .data], laidTests := true, laidLooks := .later }
def UnderAboveUptoCardSaid : Prop := Claim7.holds Tryz.pinned (.plain (OpenSpec.upto underAboveSpec)) underAboveUptoCard

/-- THE SECOND FORM's CARD OF 'reparteelaw10.EqualUnrolls'. -/
def equalUnrollsUptoCard : Claim7 := { stood := { row := equalUnrollsUptoRow, standIns := [], harness := (true, "5ffb23adbd4ee4cee643a9d8640b92f6591f6249854b8dd84d3386c79a642a18"), looks := false }, kinds := [], alts := [], laidByText := true, laidKinds := [.data, .data, .data], laidTests := true, laidLooks := .later }
def EqualUnrollsUptoCardSaid : Prop := Claim7.holds Tryz.pinned (.plain (OpenSpec.upto equalUnrollsSpec)) equalUnrollsUptoCard

/-- THE SECOND FORM's CARD OF 'reparteelaw10.EqualKeeps'. -/
def equalKeepsUptoCard : Claim7 := { stood := { row := equalKeepsUptoRow, standIns := [], harness := (true, "5ffb23adbd4ee4cee643a9d8640b92f6591f6249854b8dd84d3386c79a642a18"), looks := false }, kinds := [], alts := [], laidByText := true, laidKinds := [.data, .data, .data], laidTests := true, laidLooks := .later }
def EqualKeepsUptoCardSaid : Prop := Claim7.holds Tryz.pinned (.plain (OpenSpec.upto equalKeepsSpec)) equalKeepsUptoCard

/-- THE SECOND FORM's CARD OF 'reparteelaw13.StageCounts'. -/
def stageCountsUptoCard : Claim7 := { stood := { row := stageCountsUptoRow, standIns := [], harness := (true, "5ffb23adbd4ee4cee643a9d8640b92f6591f6249854b8dd84d3386c79a642a18"), looks := false }, kinds := [], alts := [], laidByText := true, laidKinds := [.data, .data, .data], laidTests := true, laidLooks := .later }
def StageCountsUptoCardSaid : Prop := Claim7.holds Tryz.pinned (.plain (OpenSpec.upto stageCountsSpec)) stageCountsUptoCard

/-- THE SECOND FORM's CARD OF 'reparteelaw13.StageFollows'. -/
def stageFollowsUptoCard : Claim7 := { stood := { row := stageFollowsUptoRow, standIns := [], harness := (true, "5ffb23adbd4ee4cee643a9d8640b92f6591f6249854b8dd84d3386c79a642a18"), looks := false }, kinds := [], alts := [], laidByText := true, laidKinds := [.data, .data, .data], laidTests := true, laidLooks := .later }
def StageFollowsUptoCardSaid : Prop := Claim7.holds Tryz.pinned (.plain (OpenSpec.upto stageFollowsSpec)) stageFollowsUptoCard

/-- THE SECOND FORM's CARD OF 'reparteelaw13.StageMirrors'. -/
def stageMirrorsUptoCard : Claim7 := { stood := { row := stageMirrorsUptoRow, standIns := [], harness := (true, "5ffb23adbd4ee4cee643a9d8640b92f6591f6249854b8dd84d3386c79a642a18"), looks := false }, kinds := [], alts := [], laidByText := true, laidKinds := [.data, .data, .data], laidTests := true, laidLooks := .later }
def StageMirrorsUptoCardSaid : Prop := Claim7.holds Tryz.pinned (.plain (OpenSpec.upto stageMirrorsSpec)) stageMirrorsUptoCard

/-- THE SECOND FORM's CARD OF 'reparteelaw14.ProbeUnder'. -/
def probeUnderUptoCard : Claim7 := { stood := { row := probeUnderUptoRow, standIns := [], harness := (true, "5ffb23adbd4ee4cee643a9d8640b92f6591f6249854b8dd84d3386c79a642a18"), looks := false }, kinds := [], alts := [], laidByText := true, laidKinds := [.data, .data, .data], laidTests := true, laidLooks := .later }
def ProbeUnderUptoCardSaid : Prop := Claim7.holds Tryz.pinned (.plain (OpenSpec.upto probeUnderSpec)) probeUnderUptoCard

/-- THE SECOND FORM's CARD OF 'reparteelaw14.ProbeIdle'. -/
def probeIdleUptoCard : Claim7 := { stood := { row := probeIdleUptoRow, standIns := [], harness := (true, "5ffb23adbd4ee4cee643a9d8640b92f6591f6249854b8dd84d3386c79a642a18"), looks := false }, kinds := [], alts := [], laidByText := true, laidKinds := [.data, .data, .data], laidTests := true, laidLooks := .later }
def ProbeIdleUptoCardSaid : Prop := Claim7.holds Tryz.pinned (.plain (OpenSpec.upto probeIdleSpec)) probeIdleUptoCard

/-- THE SECOND FORM's CARD OF 'reparteelaw14.ProbeSound'. -/
def probeSoundUptoCard : Claim7 := { stood := { row := probeSoundUptoRow, standIns := [], harness := (true, "5ffb23adbd4ee4cee643a9d8640b92f6591f6249854b8dd84d3386c79a642a18"), looks := false }, kinds := [], alts := [], laidByText := true, laidKinds := [.data, .data, .data], laidTests := true, laidLooks := .later }
def ProbeSoundUptoCardSaid : Prop := Claim7.holds Tryz.pinned (.plain (OpenSpec.upto probeSoundSpec)) probeSoundUptoCard
end Rows
end Go.Proofs.YtndmpmhekbdpdaaGreatDoor
