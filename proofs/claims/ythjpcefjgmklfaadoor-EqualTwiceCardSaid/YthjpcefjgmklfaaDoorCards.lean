/-
  DERIVED. GIVEN WITH THE SEED: THE CARDS: each row of YthjpcefjgmklfaaDoorRows.lean that lists a variable, with what it lists TIED to the program's text (the seventh form; the later family's looks); each row that meets fmt, with fmt's text TOLD by the authors' own Lean function (tested against real Go, not proved from fmt's source: count such statements apart). THE CARD IS WHAT COUNTS. Prove the row's statement (the work); the ties are given (YthjpcefjgmklfaaDoorTie.lean); close each card by the builder's one call (the guide's Derived/Test/ToyasCard.lean, 'card_holds'). Laid BY PROGRAM, IN A SANDBOX (cutbox-door.mjs). By AI agents, Wed Nov 11 2026. No macro, syntax, notation, axiom, sorry.
-/
import Derived.Test.YthjpcefjgmklfaaDoorRows
import GoSem.ClaimSeven
namespace Go.Proofs.YthjpcefjgmklfaaDoor
namespace Rows

/-- THE TIED CARD OF 'reparteelaw10.EqualTells'. -/
def equalTellsCard : Claim7 := { stood := { row := equalTellsRow, standIns := [], harness := (true, "1c6f4edab02cfd8c1327923fb41e730c45ba1d1919d43fbad2c9aeb48ceaa36e"), looks := false }, kinds := [], alts := [], laidByText := true, laidKinds := [.data, .data, .data], laidTests := true, laidLooks := .later }
def EqualTellsCardSaid : Prop := Claim7.holds Tryd.pinned (.plain (OpenSpec.ofChange equalTellsSpec)) equalTellsCard

/-- THE TIED CARD OF 'reparteelaw10.EqualRow'. -/
def equalRowCard : Claim7 := { stood := { row := equalRowRow, standIns := [], harness := (true, "1c6f4edab02cfd8c1327923fb41e730c45ba1d1919d43fbad2c9aeb48ceaa36e"), looks := false }, kinds := [], alts := [], laidByText := true, laidKinds := [.data, .data, .data], laidTests := true, laidLooks := .later }
def EqualRowCardSaid : Prop := Claim7.holds Tryd.pinned (.plain (OpenSpec.ofChange equalRowSpec)) equalRowCard

/-- THE TIED CARD OF 'reparteelaw10.EqualWalks'. -/
def equalWalksCard : Claim7 := { stood := { row := equalWalksRow, standIns := [], harness := (true, "1c6f4edab02cfd8c1327923fb41e730c45ba1d1919d43fbad2c9aeb48ceaa36e"), looks := false }, kinds := [], alts := [], laidByText := true, laidKinds := [.data, .data, .data], laidTests := true, laidLooks := .later }
def EqualWalksCardSaid : Prop := Claim7.holds Tryd.pinned (.plain (OpenSpec.ofChange equalWalksSpec)) equalWalksCard

/-- THE TIED CARD OF 'reparteelaw10.EqualShrink'. -/
def equalShrinkCard : Claim7 := { stood := { row := equalShrinkRow, standIns := [], harness := (true, "1c6f4edab02cfd8c1327923fb41e730c45ba1d1919d43fbad2c9aeb48ceaa36e"), looks := false }, kinds := [], alts := [], laidByText := true, laidKinds := [.data, .data, .data], laidTests := true, laidLooks := .later }
def EqualShrinkCardSaid : Prop := Claim7.holds Tryd.pinned (.plain (OpenSpec.ofChange equalShrinkSpec)) equalShrinkCard

/-- THE TIED CARD OF 'reparteelaw10.EqualTwice'. -/
def equalTwiceCard : Claim7 := { stood := { row := equalTwiceRow, standIns := [], harness := (true, "1c6f4edab02cfd8c1327923fb41e730c45ba1d1919d43fbad2c9aeb48ceaa36e"), looks := false }, kinds := [], alts := [], laidByText := true, laidKinds := [.data, .data, .data], laidTests := true, laidLooks := .later }
def EqualTwiceCardSaid : Prop := Claim7.holds Tryd.pinned (.plain (OpenSpec.ofChange equalTwiceSpec)) equalTwiceCard

/-- THE TIED CARD OF 'reparteelaw11.UnderEqual'. -/
def underEqualCard : Claim7 := { stood := { row := underEqualRow, standIns := [], harness := (true, "1c6f4edab02cfd8c1327923fb41e730c45ba1d1919d43fbad2c9aeb48ceaa36e"), looks := false }, kinds := [], alts := [], laidByText := true, laidKinds := [.data, .data, .data], laidTests := true, laidLooks := .later }
def UnderEqualCardSaid : Prop := Claim7.holds Tryd.pinned (.plain (OpenSpec.ofChange underEqualSpec)) underEqualCard

/-- THE SECOND FORM's CARD OF 'reparteelaw10.EqualTells'. -/
def equalTellsUptoCard : Claim7 := { stood := { row := equalTellsUptoRow, standIns := [], harness := (true, "1c6f4edab02cfd8c1327923fb41e730c45ba1d1919d43fbad2c9aeb48ceaa36e"), looks := false }, kinds := [], alts := [], laidByText := true, laidKinds := [.data, .data, .data], laidTests := true, laidLooks := .later }
def EqualTellsUptoCardSaid : Prop := Claim7.holds Tryd.pinned (.plain (OpenSpec.upto equalTellsSpec)) equalTellsUptoCard

/-- THE SECOND FORM's CARD OF 'reparteelaw10.EqualRow'. -/
def equalRowUptoCard : Claim7 := { stood := { row := equalRowUptoRow, standIns := [], harness := (true, "1c6f4edab02cfd8c1327923fb41e730c45ba1d1919d43fbad2c9aeb48ceaa36e"), looks := false }, kinds := [], alts := [], laidByText := true, laidKinds := [.data, .data, .data], laidTests := true, laidLooks := .later }
def EqualRowUptoCardSaid : Prop := Claim7.holds Tryd.pinned (.plain (OpenSpec.upto equalRowSpec)) equalRowUptoCard

/-- THE SECOND FORM's CARD OF 'reparteelaw10.EqualWalks'. -/
def equalWalksUptoCard : Claim7 := { stood := { row := equalWalksUptoRow, standIns := [], harness := (true, "1c6f4edab02cfd8c1327923fb41e730c45ba1d1919d43fbad2c9aeb48ceaa36e"), looks := false }, kinds := [], alts := [], laidByText := true, laidKinds := [.data, .data, .data], laidTests := true, laidLooks := .later }
def EqualWalksUptoCardSaid : Prop := Claim7.holds Tryd.pinned (.plain (OpenSpec.upto equalWalksSpec)) equalWalksUptoCard

/-- THE SECOND FORM's CARD OF 'reparteelaw10.EqualShrink'. -/
def equalShrinkUptoCard : Claim7 := { stood := { row := equalShrinkUptoRow, standIns := [], harness := (true, "1c6f4edab02cfd8c1327923fb41e730c45ba1d1919d43fbad2c9aeb48ceaa36e"), looks := false }, kinds := [], alts := [], laidByText := true, laidKinds := [.data, .data, .data], laidTests := true, laidLooks := .later }
def EqualShrinkUptoCardSaid : Prop := Claim7.holds Tryd.pinned (.plain (OpenSpec.upto equalShrinkSpec)) equalShrinkUptoCard

/-- THE SECOND FORM's CARD OF 'reparteelaw10.EqualTwice'. -/
def equalTwiceUptoCard : Claim7 := { stood := { row := equalTwiceUptoRow, standIns := [], harness := (true, "1c6f4edab02cfd8c1327923fb41e730c45ba1d1919d43fbad2c9aeb48ceaa36e"), looks := false }, kinds := [], alts := [], laidByText := true, laidKinds := [.data, .data, .data], laidTests := true, laidLooks := .later }
def EqualTwiceUptoCardSaid : Prop := Claim7.holds Tryd.pinned (.plain (OpenSpec.upto equalTwiceSpec)) equalTwiceUptoCard

/-- THE SECOND FORM's CARD OF 'reparteelaw11.UnderEqual'. -/
def underEqualUptoCard : Claim7 := { stood := { row := underEqualUptoRow, standIns := [], harness := (true, "1c6f4edab02cfd8c1327923fb41e730c45ba1d1919d43fbad2c9aeb48ceaa36e"), looks := false }, kinds := [], alts := [], laidByText := true, laidKinds := [.data, .data, .data], laidTests := true, laidLooks := .later }
def UnderEqualUptoCardSaid : Prop := Claim7.holds Tryd.pinned (.plain (OpenSpec.upto underEqualSpec)) underEqualUptoCard
end Rows
end Go.Proofs.YthjpcefjgmklfaaDoor
