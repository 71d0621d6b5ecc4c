/-
  DERIVED. GIVEN WITH THE SEED: THE CARDS: each row of YtadimhaolhpglaaGreatDoorRows.lean that lists a variable, with what it lists TIED to the program's text (the seventh form; the later family's looks); each row that meets fmt, with fmt's text TOLD by the authors' own Lean function (tested against real Go, not proved from fmt's source: count such statements apart). THE CARD IS WHAT COUNTS. Prove the row's statement (the work); the ties are given (YtadimhaolhpglaaGreatDoorTie.lean); close each card by the builder's one call (the guide's Derived/Test/ToyasCard.lean, 'card_holds'). Laid BY PROGRAM, IN A SANDBOX (cutbox-door.mjs). By AI agents, Wed Nov 11 2026. No macro, syntax, notation, axiom, sorry.
-/
import Derived.Test.YtadimhaolhpglaaGreatDoorRows
import GoSem.ClaimSeven
namespace Go.Proofs.YtadimhaolhpglaaGreatDoor
namespace Rows

/-- THE TIED CARD OF 'reparteelaw8.ProjectNames'. -/
def projectNamesCard : Claim7 := { stood := { row := projectNamesRow, standIns := [], harness := (true, "b74d9b916d7a289c36b1c3f60fb196e4b47c3e9147035c9810c22975855ab7bd"), looks := false }, kinds := [], alts := [], laidByText := true, laidKinds := [.data, .data, .data], laidTests := true, laidLooks := .later }
def ProjectNamesCardSaid : Prop := Claim7.holds Tryz.pinned (.plain (OpenSpec.ofChange projectNamesSpec)) projectNamesCard

/-- THE TIED CARD OF 'reparteelaw8.ProjectIdle'. -/
def projectIdleCard : Claim7 := { stood := { row := projectIdleRow, standIns := [], harness := (true, "b74d9b916d7a289c36b1c3f60fb196e4b47c3e9147035c9810c22975855ab7bd"), looks := false }, kinds := [], alts := [], laidByText := true, laidKinds := [.data, .data, .data], laidTests := true, laidLooks := .later }
def ProjectIdleCardSaid : Prop := Claim7.holds Tryz.pinned (.plain (OpenSpec.ofChange projectIdleSpec)) projectIdleCard

/-- THE TIED CARD OF 'reparteelaw8.ProjectTells'. -/
def projectTellsCard : Claim7 := { stood := { row := projectTellsRow, standIns := [], harness := (true, "b74d9b916d7a289c36b1c3f60fb196e4b47c3e9147035c9810c22975855ab7bd"), looks := false }, kinds := [], alts := [], laidByText := true, laidKinds := [.data, .data, .data], laidTests := true, laidLooks := .later }
def ProjectTellsCardSaid : Prop := Claim7.holds Tryz.pinned (.plain (OpenSpec.ofChange projectTellsSpec)) projectTellsCard

/-- THE TIED CARD OF 'reparteelaw8.ProjectUnrolls'. -/
def projectUnrollsCard : Claim7 := { stood := { row := projectUnrollsRow, standIns := [], harness := (true, "b74d9b916d7a289c36b1c3f60fb196e4b47c3e9147035c9810c22975855ab7bd"), looks := false }, kinds := [], alts := [], laidByText := true, laidKinds := [.data, .data, .data], laidTests := true, laidLooks := .later }
def ProjectUnrollsCardSaid : Prop := Claim7.holds Tryz.pinned (.plain (OpenSpec.ofChange projectUnrollsSpec)) projectUnrollsCard

/-- THE TIED CARD OF 'reparteelaw8.ProjectWalks'. -/
def projectWalksCard : Claim7 := { stood := { row := projectWalksRow, standIns := [], harness := (true, "b74d9b916d7a289c36b1c3f60fb196e4b47c3e9147035c9810c22975855ab7bd"), looks := false }, kinds := [], alts := [], laidByText := true, laidKinds := [.data, .data, .data], laidTests := true, laidLooks := .later }
def ProjectWalksCardSaid : Prop := Claim7.holds Tryz.pinned (.plain (OpenSpec.ofChange projectWalksSpec)) projectWalksCard

/-- THE TIED CARD OF 'reparteelaw8.ProjectSteps'. -/
def projectStepsCard : Claim7 := { stood := { row := projectStepsRow, standIns := [], harness := (true, "b74d9b916d7a289c36b1c3f60fb196e4b47c3e9147035c9810c22975855ab7bd"), looks := false }, kinds := [], alts := [], laidByText := true, laidKinds := [.data, .data, .data], laidTests := true, laidLooks := .later }
def ProjectStepsCardSaid : Prop := Claim7.holds Tryz.pinned (.plain (OpenSpec.ofChange projectStepsSpec)) projectStepsCard

/-- THE TIED CARD OF 'reparteelaw8.ProjectTwo'. -/
def projectTwoCard : Claim7 := { stood := { row := projectTwoRow, standIns := [], harness := (true, "b74d9b916d7a289c36b1c3f60fb196e4b47c3e9147035c9810c22975855ab7bd"), looks := false }, kinds := [], alts := [], laidByText := true, laidKinds := [.data, .data, .data], laidTests := true, laidLooks := .later }
def ProjectTwoCardSaid : Prop := Claim7.holds Tryz.pinned (.plain (OpenSpec.ofChange projectTwoSpec)) projectTwoCard

/-- THE TIED CARD OF 'reparteelaw12.MirrorTells'. -/
def mirrorTellsCard : Claim7 := { stood := { row := mirrorTellsRow, standIns := [], harness := (true, "b74d9b916d7a289c36b1c3f60fb196e4b47c3e9147035c9810c22975855ab7bd"), looks := false }, kinds := [], alts := [], laidByText := true, laidKinds := [.data, .data, .data], laidTests := true, laidLooks := .later }
def MirrorTellsCardSaid : Prop := Claim7.holds Tryz.pinned (.plain (OpenSpec.ofChange mirrorTellsSpec)) mirrorTellsCard

/-- THE TIED CARD OF 'reparteelaw8.ProjectTrim'. -/
def projectTrimCard : Claim7 := { stood := { row := projectTrimRow, standIns := [], harness := (true, "b74d9b916d7a289c36b1c3f60fb196e4b47c3e9147035c9810c22975855ab7bd"), looks := false }, kinds := [], alts := [], laidByText := true, laidKinds := [.data, .data, .data], laidTests := true, laidLooks := .later }
def ProjectTrimCardSaid : Prop := Claim7.holds Tryz.pinned (.plain (OpenSpec.ofChange projectTrimSpec)) projectTrimCard

/-- THE TIED CARD OF 'reparteelaw12.MirrorProject'. -/
def mirrorProjectCard : Claim7 := { stood := { row := mirrorProjectRow, standIns := [], harness := (true, "b74d9b916d7a289c36b1c3f60fb196e4b47c3e9147035c9810c22975855ab7bd"), looks := false }, kinds := [], alts := [], laidByText := true, laidKinds := [.data, .data, .data], laidTests := true, laidLooks := .later }
def MirrorProjectCardSaid : Prop := Claim7.holds Tryz.pinned (.plain (OpenSpec.ofChange mirrorProjectSpec)) mirrorProjectCard

/-- THE TIED CARD OF 'reparteelaw12.MirrorLifts'. -/
def mirrorLiftsCard : Claim7 := { stood := { row := mirrorLiftsRow, standIns := [], harness := (true, "b74d9b916d7a289c36b1c3f60fb196e4b47c3e9147035c9810c22975855ab7bd"), looks := false }, kinds := [], alts := [], laidByText := true, laidKinds := [.data, .data, .data], laidTests := true, laidLooks := .later }
def MirrorLiftsCardSaid : Prop := Claim7.holds Tryz.pinned (.plain (OpenSpec.ofChange mirrorLiftsSpec)) mirrorLiftsCard

/-- THE SECOND FORM's CARD OF 'reparteelaw8.ProjectNames'. -/
def projectNamesUptoCard : Claim7 := { stood := { row := projectNamesUptoRow, standIns := [], harness := (true, "b74d9b916d7a289c36b1c3f60fb196e4b47c3e9147035c9810c22975855ab7bd"), looks := false }, kinds := [], alts := [], laidByText := true, laidKinds := [.data, .data, .data], laidTests := true, laidLooks := .later }
def ProjectNamesUptoCardSaid : Prop := Claim7.holds Tryz.pinned (.plain (OpenSpec.upto projectNamesSpec)) projectNamesUptoCard

/-- THE SECOND FORM's CARD OF 'reparteelaw8.ProjectIdle'. -/
def projectIdleUptoCard : Claim7 := { stood := { row := projectIdleUptoRow, standIns := [], harness := (true, "b74d9b916d7a289c36b1c3f60fb196e4b47c3e9147035c9810c22975855ab7bd"), looks := false }, kinds := [], alts := [], laidByText := true, laidKinds := [.data, .data, .data], laidTests := true, laidLooks := .later }
def ProjectIdleUptoCardSaid : Prop := Claim7.holds Tryz.pinned (.plain (OpenSpec.upto projectIdleSpec)) projectIdleUptoCard

/-- THE SECOND FORM's CARD OF 'reparteelaw8.ProjectTells'. -/
def projectTellsUptoCard : Claim7 := { stood := { row := projectTellsUptoRow, standIns := [], harness := (true, "b74d9b916d7a289c36b1c3f60fb196e4b47c3e9147035c9810c22975855ab7bd"), looks := false }, kinds := [], alts := [], laidByText := true, laidKinds := [.data, .data, .data], laidTests := true, laidLooks := .later }
def ProjectTellsUptoCardSaid : Prop := Claim7.holds Tryz.pinned (.plain (OpenSpec.upto projectTellsSpec)) projectTellsUptoCard

/-- THE SECOND FORM's CARD OF 'reparteelaw8.ProjectUnrolls'. -/
def projectUnrollsUptoCard : Claim7 := { stood := { row := projectUnrollsUptoRow, standIns := [], harness := (true, "b74d9b916d7a289c36b1c3f60fb196e4b47c3e9147035c9810c22975855ab7bd"), looks := false }, kinds := [], alts := [], laidByText := true, laidKinds := [.data, .data, .data], laidTests := true, laidLooks := .later }
def ProjectUnrollsUptoCardSaid : Prop := Claim7.holds Tryz.pinned (.plain (OpenSpec.upto projectUnrollsSpec)) projectUnrollsUptoCard

/-- THE SECOND FORM's CARD OF 'reparteelaw8.ProjectWalks'. -/
def projectWalksUptoCard : Claim7 := { stood := { row := projectWalksUptoRow, standIns := [], harness := (true, "b74d9b916d7a289c36b1c3f60fb196e4b47c3e9147035c9810c22975855ab7bd"), looks := false }, kinds := [], alts := [], laidByText := true, laidKinds := [.data, .data, .data], laidTests := true, laidLooks := .later }
def ProjectWalksUptoCardSaid : Prop := Claim7.holds Tryz.pinned (.plain (OpenSpec.upto projectWalksSpec)) projectWalksUptoCard

/-- THE SECOND FORM's CARD OF 'reparteelaw8.ProjectSteps'. -/
def projectStepsUptoCard : Claim7 := { stood := { row := projectStepsUptoRow, standIns := [], harness := (true, "b74d9b916d7a289c36b1c3f60fb196e4b47c3e9147035c9810c22975855ab7bd"), looks := false }, kinds := [], alts := [], laidByText := true, laidKinds := [.data, .data, .data], laidTests := true, laidLooks := .later }
def ProjectStepsUptoCardSaid : Prop := Claim7.holds Tryz.pinned (.plain (OpenSpec.upto projectStepsSpec)) projectStepsUptoCard

/-- THE SECOND FORM's CARD OF 'reparteelaw8.ProjectTwo'. -/
def projectTwoUptoCard : Claim7 := { stood := { row := projectTwoUptoRow, standIns := [], harness := (true, "b74d9b916d7a289c36b1c3f60fb196e4b47c3e9147035c9810c22975855ab7bd"), looks := false }, kinds := [], alts := [], laidByText := true, laidKinds := [.data, .data, .data], laidTests := true, laidLooks := .later }
def ProjectTwoUptoCardSaid : Prop := Claim7.holds Tryz.pinned (.plain (OpenSpec.upto projectTwoSpec)) projectTwoUptoCard

/-- THE SECOND FORM's CARD OF 'reparteelaw12.MirrorTells'. -/
def mirrorTellsUptoCard : Claim7 := { stood := { row := mirrorTellsUptoRow, standIns := [], harness := (true, "b74d9b916d7a289c36b1c3f60fb196e4b47c3e9147035c9810c22975855ab7bd"), looks := false }, kinds := [], alts := [], laidByText := true, laidKinds := [.data, .data, .data], laidTests := true, laidLooks := .later }
def MirrorTellsUptoCardSaid : Prop := Claim7.holds Tryz.pinned (.plain (OpenSpec.upto mirrorTellsSpec)) mirrorTellsUptoCard

/-- THE SECOND FORM's CARD OF 'reparteelaw8.ProjectTrim'. -/
def projectTrimUptoCard : Claim7 := { stood := { row := projectTrimUptoRow, standIns := [], harness := (true, "b74d9b916d7a289c36b1c3f60fb196e4b47c3e9147035c9810c22975855ab7bd"), looks := false }, kinds := [], alts := [], laidByText := true, laidKinds := [.data, .data, .data], laidTests := true, laidLooks := .later }
def ProjectTrimUptoCardSaid : Prop := Claim7.holds Tryz.pinned (.plain (OpenSpec.upto projectTrimSpec)) projectTrimUptoCard

/-- THE SECOND FORM's CARD OF 'reparteelaw12.MirrorProject'. -/
def mirrorProjectUptoCard : Claim7 := { stood := { row := mirrorProjectUptoRow, standIns := [], harness := (true, "b74d9b916d7a289c36b1c3f60fb196e4b47c3e9147035c9810c22975855ab7bd"), looks := false }, kinds := [], alts := [], laidByText := true, laidKinds := [.data, .data, .data], laidTests := true, laidLooks := .later }
def MirrorProjectUptoCardSaid : Prop := Claim7.holds Tryz.pinned (.plain (OpenSpec.upto mirrorProjectSpec)) mirrorProjectUptoCard

/-- THE SECOND FORM's CARD OF 'reparteelaw12.MirrorLifts'. -/
def mirrorLiftsUptoCard : Claim7 := { stood := { row := mirrorLiftsUptoRow, standIns := [], harness := (true, "b74d9b916d7a289c36b1c3f60fb196e4b47c3e9147035c9810c22975855ab7bd"), looks := false }, kinds := [], alts := [], laidByText := true, laidKinds := [.data, .data, .data], laidTests := true, laidLooks := .later }
def MirrorLiftsUptoCardSaid : Prop := Claim7.holds Tryz.pinned (.plain (OpenSpec.upto mirrorLiftsSpec)) mirrorLiftsUptoCard
end Rows
end Go.Proofs.YtadimhaolhpglaaGreatDoor
