/-
  DERIVED. GIVEN WITH THE SEED: THE CARDS: each row of YtademmkjmpgplaaGreatDoorRows.lean that lists a variable, with what it lists TIED to the program's text (the seventh form; the later family's looks); each row that meets fmt, with fmt's text TOLD by the authors' own Lean function (tested against real Go, not proved from fmt's source: count such statements apart). THE CARD IS WHAT COUNTS. Prove the row's statement (the work); the ties are given (YtademmkjmpgplaaGreatDoorTie.lean); close each card by the builder's one call (the guide's Derived/Test/ToyasCard.lean, 'card_holds'). Laid BY PROGRAM, IN A SANDBOX (cutbox-door.mjs). By AI agents, Wed Nov 11 2026. No macro, syntax, notation, axiom, sorry.
-/
import Derived.Test.YtademmkjmpgplaaGreatDoorRows
import GoSem.ClaimSeven
namespace Go.Proofs.YtademmkjmpgplaaGreatDoor
namespace Rows

/-- THE TIED CARD OF 'reparteelaw8.ProjectTells'. -/
def projectTellsCard : Claim7 := { stood := { row := projectTellsRow, standIns := [], harness := (true, "ee522ada001d8bad15d703ef260e0ea364243dcbbd8506b4fd23bb005f1d678b"), looks := false }, kinds := [], alts := [], laidByText := true, laidKinds := [.data, .data, .data], laidTests := true, laidLooks := .later }
def ProjectTellsCardSaid : Prop := Claim7.holds Tryz.pinned (.plain (OpenSpec.ofChange projectTellsSpec)) projectTellsCard

/-- THE TIED CARD OF 'reparteelaw8.ProjectUnrolls'. -/
def projectUnrollsCard : Claim7 := { stood := { row := projectUnrollsRow, standIns := [], harness := (true, "ee522ada001d8bad15d703ef260e0ea364243dcbbd8506b4fd23bb005f1d678b"), looks := false }, kinds := [], alts := [], laidByText := true, laidKinds := [.data, .data, .data], laidTests := true, laidLooks := .later }
def ProjectUnrollsCardSaid : Prop := Claim7.holds Tryz.pinned (.plain (OpenSpec.ofChange projectUnrollsSpec)) projectUnrollsCard

/-- THE TIED CARD OF 'reparteelaw8.ProjectSteps'. -/
def projectStepsCard : Claim7 := { stood := { row := projectStepsRow, standIns := [], harness := (true, "ee522ada001d8bad15d703ef260e0ea364243dcbbd8506b4fd23bb005f1d678b"), looks := false }, kinds := [], alts := [], laidByText := true, laidKinds := [.data, .data, .data], laidTests := true, laidLooks := .later }
def ProjectStepsCardSaid : Prop := Claim7.holds Tryz.pinned (.plain (OpenSpec.ofChange projectStepsSpec)) projectStepsCard

/-- THE TIED CARD OF 'reparteelaw8.ProjectTwo'. -/
def projectTwoCard : Claim7 := { stood := { row := projectTwoRow, standIns := [], harness := (true, "ee522ada001d8bad15d703ef260e0ea364243dcbbd8506b4fd23bb005f1d678b"), looks := false }, kinds := [], alts := [], laidByText := true, laidKinds := [.data, .data, .data], laidTests := true, laidLooks := .later }
def ProjectTwoCardSaid : Prop := Claim7.holds Tryz.pinned (.plain (OpenSpec.ofChange projectTwoSpec)) projectTwoCard

/-- THE TIED CARD OF 'reparteelaw12.MirrorTells'. -/
def mirrorTellsCard : Claim7 := { stood := { row := mirrorTellsRow, standIns := [], harness := (true, "ee522ada001d8bad15d703ef260e0ea364243dcbbd8506b4fd23bb005f1d678b"), looks := false }, kinds := [], alts := [], laidByText := true, laidKinds := [.data, .data, .data], laidTests := true, laidLooks := .later }
def MirrorTellsCardSaid : Prop := Claim7.holds Tryz.pinned (.plain (OpenSpec.ofChange mirrorTellsSpec)) mirrorTellsCard

/-- THE TIED CARD OF 'reparteelaw12.MirrorProject'. -/
def mirrorProjectCard : Claim7 := { stood := { row := mirrorProjectRow, standIns := [], harness := (true, "ee522ada001d8bad15d703ef260e0ea364243dcbbd8506b4fd23bb005f1d678b"), looks := false }, kinds := [], alts := [], laidByText := true, laidKinds := [.data, .data, .data], laidTests := true, laidLooks := .later }
def MirrorProjectCardSaid : Prop := Claim7.holds Tryz.pinned (.plain (OpenSpec.ofChange mirrorProjectSpec)) mirrorProjectCard

/-- THE TIED CARD OF 'reparteelaw12.MirrorLifts'. -/
def mirrorLiftsCard : Claim7 := { stood := { row := mirrorLiftsRow, standIns := [], harness := (true, "ee522ada001d8bad15d703ef260e0ea364243dcbbd8506b4fd23bb005f1d678b"), looks := false }, kinds := [], alts := [], laidByText := true, laidKinds := [.data, .data, .data], laidTests := true, laidLooks := .later }
def MirrorLiftsCardSaid : Prop := Claim7.holds Tryz.pinned (.plain (OpenSpec.ofChange mirrorLiftsSpec)) mirrorLiftsCard

/-- THE SECOND FORM's CARD OF 'reparteelaw8.ProjectTells'. -/
def projectTellsUptoCard : Claim7 := { stood := { row := projectTellsUptoRow, standIns := [], harness := (true, "ee522ada001d8bad15d703ef260e0ea364243dcbbd8506b4fd23bb005f1d678b"), looks := false }, kinds := [], alts := [], laidByText := true, laidKinds := [.data, .data, .data], laidTests := true, laidLooks := .later }
def ProjectTellsUptoCardSaid : Prop := Claim7.holds Tryz.pinned (.plain (OpenSpec.upto projectTellsSpec)) projectTellsUptoCard

/-- THE SECOND FORM's CARD OF 'reparteelaw8.ProjectUnrolls'. -/
def projectUnrollsUptoCard : Claim7 := { stood := { row := projectUnrollsUptoRow, standIns := [], harness := (true, "ee522ada001d8bad15d703ef260e0ea364243dcbbd8506b4fd23bb005f1d678b"), looks := false }, kinds := [], alts := [], laidByText := true, laidKinds := [.data, .data, .data], laidTests := true, laidLooks := .later }
def ProjectUnrollsUptoCardSaid : Prop := Claim7.holds Tryz.pinned (.plain (OpenSpec.upto projectUnrollsSpec)) projectUnrollsUptoCard

/-- THE SECOND FORM's CARD OF 'reparteelaw8.ProjectSteps'. -/
def projectStepsUptoCard : Claim7 := { stood := { row := projectStepsUptoRow, standIns := [], harness := (true, "ee522ada001d8bad15d703ef260e0ea364243dcbbd8506b4fd23bb005f1d678b"), looks := false }, kinds := [], alts := [], laidByText := true, laidKinds := [.data, .data, .data], laidTests := true, laidLooks := .later }
def ProjectStepsUptoCardSaid : Prop := Claim7.holds Tryz.pinned (.plain (OpenSpec.upto projectStepsSpec)) projectStepsUptoCard

/-- THE SECOND FORM's CARD OF 'reparteelaw8.ProjectTwo'. -/
def projectTwoUptoCard : Claim7 := { stood := { row := projectTwoUptoRow, standIns := [], harness := (true, "ee522ada001d8bad15d703ef260e0ea364243dcbbd8506b4fd23bb005f1d678b"), looks := false }, kinds := [], alts := [], laidByText := true, laidKinds := [.data, .data, .data], laidTests := true, laidLooks := .later }
def ProjectTwoUptoCardSaid : Prop := Claim7.holds Tryz.pinned (.plain (OpenSpec.upto projectTwoSpec)) projectTwoUptoCard

/-- THE SECOND FORM's CARD OF 'reparteelaw12.MirrorTells'. -/
def mirrorTellsUptoCard : Claim7 := { stood := { row := mirrorTellsUptoRow, standIns := [], harness := (true, "ee522ada001d8bad15d703ef260e0ea364243dcbbd8506b4fd23bb005f1d678b"), looks := false }, kinds := [], alts := [], laidByText := true, laidKinds := [.data, .data, .data], laidTests := true, laidLooks := .later }
def MirrorTellsUptoCardSaid : Prop := Claim7.holds Tryz.pinned (.plain (OpenSpec.upto mirrorTellsSpec)) mirrorTellsUptoCard

/-- THE SECOND FORM's CARD OF 'reparteelaw12.MirrorProject'. -/
def mirrorProjectUptoCard : Claim7 := { stood := { row := mirrorProjectUptoRow, standIns := [], harness := (true, "ee522ada001d8bad15d703ef260e0ea364243dcbbd8506b4fd23bb005f1d678b"), looks := false }, kinds := [], alts := [], laidByText := true, laidKinds := [.data, .data, .data], laidTests := true, laidLooks := .later }
def MirrorProjectUptoCardSaid : Prop := Claim7.holds Tryz.pinned (.plain (OpenSpec.upto mirrorProjectSpec)) mirrorProjectUptoCard

/-- THE SECOND FORM's CARD OF 'reparteelaw12.MirrorLifts'. -/
def mirrorLiftsUptoCard : Claim7 := { stood := { row := mirrorLiftsUptoRow, standIns := [], harness := (true, "ee522ada001d8bad15d703ef260e0ea364243dcbbd8506b4fd23bb005f1d678b"), looks := false }, kinds := [], alts := [], laidByText := true, laidKinds := [.data, .data, .data], laidTests := true, laidLooks := .later }
def MirrorLiftsUptoCardSaid : Prop := Claim7.holds Tryz.pinned (.plain (OpenSpec.upto mirrorLiftsSpec)) mirrorLiftsUptoCard
end Rows
end Go.Proofs.YtademmkjmpgplaaGreatDoor
