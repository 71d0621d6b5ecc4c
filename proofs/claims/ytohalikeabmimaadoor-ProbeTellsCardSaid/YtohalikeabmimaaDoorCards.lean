/-
  DERIVED. GIVEN WITH THE SEED: THE CARDS: each row of YtohalikeabmimaaDoorRows.lean that lists a variable, with what it lists TIED to the program's text (the seventh form; the later family's looks); each row that meets fmt, with fmt's text TOLD by the authors' own Lean function (tested against real Go, not proved from fmt's source: count such statements apart). THE CARD IS WHAT COUNTS. Prove the row's statement (the work); the ties are given (YtohalikeabmimaaDoorTie.lean); close each card by the builder's one call (the guide's Derived/Test/ToyasCard.lean, 'card_holds'). Laid BY PROGRAM, IN A SANDBOX (cutbox-door.mjs). By AI agents, Wed Nov 11 2026. No macro, syntax, notation, axiom, sorry.
-/
import Derived.Test.YtohalikeabmimaaDoorRows
import GoSem.ClaimSeven
namespace Go.Proofs.YtohalikeabmimaaDoor
namespace Rows

/-- THE TIED CARD OF 'reparteelaw14.ProbeTells'. -/
def probeTellsCard : Claim7 := { stood := { row := probeTellsRow, standIns := [], harness := (true, "3673b43514145869b3579f7ff9f637f5442d0a826dc415058a21fb299ca000f6"), looks := false }, kinds := [], alts := [], laidByText := true, laidKinds := [.data, .data, .data], laidTests := true, laidLooks := .later }
def ProbeTellsCardSaid : Prop := Claim7.holds Tryd.pinned (.plain (OpenSpec.ofChange probeTellsSpec)) probeTellsCard

/-- THE TIED CARD OF 'reparteelaw14.ProbeStuck'. -/
def probeStuckCard : Claim7 := { stood := { row := probeStuckRow, standIns := [], harness := (true, "3673b43514145869b3579f7ff9f637f5442d0a826dc415058a21fb299ca000f6"), looks := false }, kinds := [], alts := [], laidByText := true, laidKinds := [.data, .data, .data], laidTests := true, laidLooks := .later }
def ProbeStuckCardSaid : Prop := Claim7.holds Tryd.pinned (.plain (OpenSpec.ofChange probeStuckSpec)) probeStuckCard

/-- THE TIED CARD OF 'reparteelaw14.ProbeWhole'. -/
def probeWholeCard : Claim7 := { stood := { row := probeWholeRow, standIns := [], harness := (true, "3673b43514145869b3579f7ff9f637f5442d0a826dc415058a21fb299ca000f6"), looks := false }, kinds := [], alts := [], laidByText := true, laidKinds := [.data, .data, .data], laidTests := true, laidLooks := .later }
def ProbeWholeCardSaid : Prop := Claim7.holds Tryd.pinned (.plain (OpenSpec.ofChange probeWholeSpec)) probeWholeCard

/-- THE TIED CARD OF 'reparteelaw14.ProbeMore'. -/
def probeMoreCard : Claim7 := { stood := { row := probeMoreRow, standIns := [], harness := (true, "3673b43514145869b3579f7ff9f637f5442d0a826dc415058a21fb299ca000f6"), looks := false }, kinds := [], alts := [], laidByText := true, laidKinds := [.data, .data, .data], laidTests := true, laidLooks := .later }
def ProbeMoreCardSaid : Prop := Claim7.holds Tryd.pinned (.plain (OpenSpec.ofChange probeMoreSpec)) probeMoreCard

/-- THE TIED CARD OF 'reparteelaw14.ProbeForms'. -/
def probeFormsCard : Claim7 := { stood := { row := probeFormsRow, standIns := [], harness := (true, "3673b43514145869b3579f7ff9f637f5442d0a826dc415058a21fb299ca000f6"), looks := false }, kinds := [], alts := [], laidByText := true, laidKinds := [.data, .data, .data], laidTests := true, laidLooks := .later }
def ProbeFormsCardSaid : Prop := Claim7.holds Tryd.pinned (.plain (OpenSpec.ofChange probeFormsSpec)) probeFormsCard

/-- THE SECOND FORM's CARD OF 'reparteelaw14.ProbeTells'. -/
def probeTellsUptoCard : Claim7 := { stood := { row := probeTellsUptoRow, standIns := [], harness := (true, "3673b43514145869b3579f7ff9f637f5442d0a826dc415058a21fb299ca000f6"), looks := false }, kinds := [], alts := [], laidByText := true, laidKinds := [.data, .data, .data], laidTests := true, laidLooks := .later }
def ProbeTellsUptoCardSaid : Prop := Claim7.holds Tryd.pinned (.plain (OpenSpec.upto probeTellsSpec)) probeTellsUptoCard

/-- THE SECOND FORM's CARD OF 'reparteelaw14.ProbeStuck'. -/
def probeStuckUptoCard : Claim7 := { stood := { row := probeStuckUptoRow, standIns := [], harness := (true, "3673b43514145869b3579f7ff9f637f5442d0a826dc415058a21fb299ca000f6"), looks := false }, kinds := [], alts := [], laidByText := true, laidKinds := [.data, .data, .data], laidTests := true, laidLooks := .later }
def ProbeStuckUptoCardSaid : Prop := Claim7.holds Tryd.pinned (.plain (OpenSpec.upto probeStuckSpec)) probeStuckUptoCard

/-- THE SECOND FORM's CARD OF 'reparteelaw14.ProbeWhole'. -/
def probeWholeUptoCard : Claim7 := { stood := { row := probeWholeUptoRow, standIns := [], harness := (true, "3673b43514145869b3579f7ff9f637f5442d0a826dc415058a21fb299ca000f6"), looks := false }, kinds := [], alts := [], laidByText := true, laidKinds := [.data, .data, .data], laidTests := true, laidLooks := .later }
def ProbeWholeUptoCardSaid : Prop := Claim7.holds Tryd.pinned (.plain (OpenSpec.upto probeWholeSpec)) probeWholeUptoCard

/-- THE SECOND FORM's CARD OF 'reparteelaw14.ProbeMore'. -/
def probeMoreUptoCard : Claim7 := { stood := { row := probeMoreUptoRow, standIns := [], harness := (true, "3673b43514145869b3579f7ff9f637f5442d0a826dc415058a21fb299ca000f6"), looks := false }, kinds := [], alts := [], laidByText := true, laidKinds := [.data, .data, .data], laidTests := true, laidLooks := .later }
def ProbeMoreUptoCardSaid : Prop := Claim7.holds Tryd.pinned (.plain (OpenSpec.upto probeMoreSpec)) probeMoreUptoCard

/-- THE SECOND FORM's CARD OF 'reparteelaw14.ProbeForms'. -/
def probeFormsUptoCard : Claim7 := { stood := { row := probeFormsUptoRow, standIns := [], harness := (true, "3673b43514145869b3579f7ff9f637f5442d0a826dc415058a21fb299ca000f6"), looks := false }, kinds := [], alts := [], laidByText := true, laidKinds := [.data, .data, .data], laidTests := true, laidLooks := .later }
def ProbeFormsUptoCardSaid : Prop := Claim7.holds Tryd.pinned (.plain (OpenSpec.upto probeFormsSpec)) probeFormsUptoCard
end Rows
end Go.Proofs.YtohalikeabmimaaDoor
