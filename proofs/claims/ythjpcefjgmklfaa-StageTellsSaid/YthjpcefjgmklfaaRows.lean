/-
  No cell of these rows narrows 'for every input' (looked for: loops, veiled, ifaces, maps, wideKeys, modest, calm, conditions, laid).
  DERIVED. THE GIVEN ROWS OF THIS SEAT. 9 by the template 'for every input the law returns true; each argument reads behind the call as it read before'; 0 by the template 'total and deterministic' (their statements: YthjpcefjgmklfaaTotals.lean).
  GIVEN WITH THE SEED: the statements are not yours to turn. If you find one false, say at which input.
  Laid BY PROGRAM, IN A SANDBOX (cutbox-rows.mjs): the forced cells as the released guide's own fill.sh prints them over the translation 1ddfdcdac2e2525e… (all of the seat's roots in one cut). By AI agents, Wed Nov 11 2026. No macro, syntax, notation, axiom, sorry.
-/
import Derived.Test.YthjpcefjgmklfaaChecked
import GoSem.Claim
import GoSem.ClaimJoined
import GoSem.ClaimMapViews
import Derived.JoinedTies
import Derived.KernelRfl
namespace Go.Proofs.Ythjpcefjgmklfaa
/- THE CELL 'sum', in the pinned program and in every row, IS THE sha256 OF THE DUMP (.gsa) THAT YthjpcefjgmklfaaProg.lean LOADS. Nothing in Lean hashes anything: it is a label: what it is worth is what the hold of that sum in a sandbox is worth. -/
noncomputable def Try.pinned : Pinned := { name := "ythjpcefjgmklfaa", sum := "1ddfdcdac2e2525e47364d50fc49ccf0fb2ac33fa6514207a289ea6c36739483", checked := Try.checked }
namespace Rows
def none {H : Type} : Left H := { results := [], args := [] }

/-- 'reparteelaw11.UnderRow': WHATEVER THE INPUT: true; the input reads as it did. -/
def underRowSpec : ChangeSpec := { name := "underRow", fn := fun _ => fun
  | [d1, d2, d3, d4] => { results := [.lit (.bool true)], args := [d1, d2, d3, d4] }
  | _ => none }
def underRowRow : OpenClaim := { program := "ythjpcefjgmklfaa", sum := "1ddfdcdac2e2525e47364d50fc49ccf0fb2ac33fa6514207a289ea6c36739483", func := "repartee/reparteelaw11.UnderRow", spec := "underRow", unfollowed := true, recurses := true, plainKeys := false, apart := false }
def UnderRowSaid : Prop := underRowRow.holds Try.pinned (OpenSpec.ofChange underRowSpec)

/-- ITS FALSE NEIGHBOUR: 'it returns false'. Refute it at one input. -/
def underRowWrong : ChangeSpec := { name := "underRow", fn := fun _ => fun
  | [d1, d2, d3, d4] => { results := [.lit (.bool false)], args := [d1, d2, d3, d4] }
  | _ => none }
def UnderRowWrongFalsely : Prop := underRowRow.holds Try.pinned (OpenSpec.ofChange underRowWrong)

/-- 'reparteelaw11.UnderPairs': WHATEVER THE INPUT: true; the input reads as it did. -/
def underPairsSpec : ChangeSpec := { name := "underPairs", fn := fun _ => fun
  | [d1, d2, d3, d4] => { results := [.lit (.bool true)], args := [d1, d2, d3, d4] }
  | _ => none }
def underPairsRow : OpenClaim := { program := "ythjpcefjgmklfaa", sum := "1ddfdcdac2e2525e47364d50fc49ccf0fb2ac33fa6514207a289ea6c36739483", func := "repartee/reparteelaw11.UnderPairs", spec := "underPairs", unfollowed := true, recurses := true, plainKeys := false, apart := false }
def UnderPairsSaid : Prop := underPairsRow.holds Try.pinned (OpenSpec.ofChange underPairsSpec)

/-- ITS FALSE NEIGHBOUR: 'it returns false'. Refute it at one input. -/
def underPairsWrong : ChangeSpec := { name := "underPairs", fn := fun _ => fun
  | [d1, d2, d3, d4] => { results := [.lit (.bool false)], args := [d1, d2, d3, d4] }
  | _ => none }
def UnderPairsWrongFalsely : Prop := underPairsRow.holds Try.pinned (OpenSpec.ofChange underPairsWrong)

/-- 'reparteelaw11.UnderSteps': WHATEVER THE INPUT: true; the input reads as it did. -/
def underStepsSpec : ChangeSpec := { name := "underSteps", fn := fun _ => fun
  | [d1, d2, d3, d4] => { results := [.lit (.bool true)], args := [d1, d2, d3, d4] }
  | _ => none }
def underStepsRow : OpenClaim := { program := "ythjpcefjgmklfaa", sum := "1ddfdcdac2e2525e47364d50fc49ccf0fb2ac33fa6514207a289ea6c36739483", func := "repartee/reparteelaw11.UnderSteps", spec := "underSteps", unfollowed := true, recurses := true, plainKeys := false, apart := false }
def UnderStepsSaid : Prop := underStepsRow.holds Try.pinned (OpenSpec.ofChange underStepsSpec)

/-- ITS FALSE NEIGHBOUR: 'it returns false'. Refute it at one input. -/
def underStepsWrong : ChangeSpec := { name := "underSteps", fn := fun _ => fun
  | [d1, d2, d3, d4] => { results := [.lit (.bool false)], args := [d1, d2, d3, d4] }
  | _ => none }
def UnderStepsWrongFalsely : Prop := underStepsRow.holds Try.pinned (OpenSpec.ofChange underStepsWrong)

/-- 'reparteelaw11.UnderFewer': WHATEVER THE INPUT: true; the input reads as it did. -/
def underFewerSpec : ChangeSpec := { name := "underFewer", fn := fun _ => fun
  | [d1, d2, d3] => { results := [.lit (.bool true)], args := [d1, d2, d3] }
  | _ => none }
def underFewerRow : OpenClaim := { program := "ythjpcefjgmklfaa", sum := "1ddfdcdac2e2525e47364d50fc49ccf0fb2ac33fa6514207a289ea6c36739483", func := "repartee/reparteelaw11.UnderFewer", spec := "underFewer", unfollowed := true, recurses := true, plainKeys := false, apart := false }
def UnderFewerSaid : Prop := underFewerRow.holds Try.pinned (OpenSpec.ofChange underFewerSpec)

/-- ITS FALSE NEIGHBOUR: 'it returns false'. Refute it at one input. -/
def underFewerWrong : ChangeSpec := { name := "underFewer", fn := fun _ => fun
  | [d1, d2, d3] => { results := [.lit (.bool false)], args := [d1, d2, d3] }
  | _ => none }
def UnderFewerWrongFalsely : Prop := underFewerRow.holds Try.pinned (OpenSpec.ofChange underFewerWrong)

/-- 'reparteelaw13.StageTells': WHATEVER THE INPUT: true; the input reads as it did. -/
def stageTellsSpec : ChangeSpec := { name := "stageTells", fn := fun _ => fun
  | [d1, d2, d3, d4, d5, d6] => { results := [.lit (.bool true)], args := [d1, d2, d3, d4, d5, d6] }
  | _ => none }
def stageTellsRow : OpenClaim := { program := "ythjpcefjgmklfaa", sum := "1ddfdcdac2e2525e47364d50fc49ccf0fb2ac33fa6514207a289ea6c36739483", func := "repartee/reparteelaw13.StageTells", spec := "stageTells", unfollowed := true, recurses := true, plainKeys := false, apart := false }
def StageTellsSaid : Prop := stageTellsRow.holds Try.pinned (OpenSpec.ofChange stageTellsSpec)

/-- ITS FALSE NEIGHBOUR: 'it returns false'. Refute it at one input. -/
def stageTellsWrong : ChangeSpec := { name := "stageTells", fn := fun _ => fun
  | [d1, d2, d3, d4, d5, d6] => { results := [.lit (.bool false)], args := [d1, d2, d3, d4, d5, d6] }
  | _ => none }
def StageTellsWrongFalsely : Prop := stageTellsRow.holds Try.pinned (OpenSpec.ofChange stageTellsWrong)

/-- 'reparteelaw13.StagePlays': WHATEVER THE INPUT: true; the input reads as it did. -/
def stagePlaysSpec : ChangeSpec := { name := "stagePlays", fn := fun _ => fun
  | [d1, d2, d3] => { results := [.lit (.bool true)], args := [d1, d2, d3] }
  | _ => none }
def stagePlaysRow : OpenClaim := { program := "ythjpcefjgmklfaa", sum := "1ddfdcdac2e2525e47364d50fc49ccf0fb2ac33fa6514207a289ea6c36739483", func := "repartee/reparteelaw13.StagePlays", spec := "stagePlays", unfollowed := true, recurses := true, plainKeys := false, apart := false }
def StagePlaysSaid : Prop := stagePlaysRow.holds Try.pinned (OpenSpec.ofChange stagePlaysSpec)

/-- ITS FALSE NEIGHBOUR: 'it returns false'. Refute it at one input. -/
def stagePlaysWrong : ChangeSpec := { name := "stagePlays", fn := fun _ => fun
  | [d1, d2, d3] => { results := [.lit (.bool false)], args := [d1, d2, d3] }
  | _ => none }
def StagePlaysWrongFalsely : Prop := stagePlaysRow.holds Try.pinned (OpenSpec.ofChange stagePlaysWrong)

/-- 'reparteelaw13.StageDiamond': WHATEVER THE INPUT: true; the input reads as it did. -/
def stageDiamondSpec : ChangeSpec := { name := "stageDiamond", fn := fun _ => fun
  | [d1, d2, d3, d4] => { results := [.lit (.bool true)], args := [d1, d2, d3, d4] }
  | _ => none }
def stageDiamondRow : OpenClaim := { program := "ythjpcefjgmklfaa", sum := "1ddfdcdac2e2525e47364d50fc49ccf0fb2ac33fa6514207a289ea6c36739483", func := "repartee/reparteelaw13.StageDiamond", spec := "stageDiamond", unfollowed := true, recurses := true, plainKeys := false, apart := false }
def StageDiamondSaid : Prop := stageDiamondRow.holds Try.pinned (OpenSpec.ofChange stageDiamondSpec)

/-- ITS FALSE NEIGHBOUR: 'it returns false'. Refute it at one input. -/
def stageDiamondWrong : ChangeSpec := { name := "stageDiamond", fn := fun _ => fun
  | [d1, d2, d3, d4] => { results := [.lit (.bool false)], args := [d1, d2, d3, d4] }
  | _ => none }
def StageDiamondWrongFalsely : Prop := stageDiamondRow.holds Try.pinned (OpenSpec.ofChange stageDiamondWrong)

/-- 'reparteelaw13.StageLetters': WHATEVER THE INPUT: true; the input reads as it did. -/
def stageLettersSpec : ChangeSpec := { name := "stageLetters", fn := fun _ => fun
  | [d1, d2, d3] => { results := [.lit (.bool true)], args := [d1, d2, d3] }
  | _ => none }
def stageLettersRow : OpenClaim := { program := "ythjpcefjgmklfaa", sum := "1ddfdcdac2e2525e47364d50fc49ccf0fb2ac33fa6514207a289ea6c36739483", func := "repartee/reparteelaw13.StageLetters", spec := "stageLetters", unfollowed := true, recurses := true, plainKeys := false, apart := false }
def StageLettersSaid : Prop := stageLettersRow.holds Try.pinned (OpenSpec.ofChange stageLettersSpec)

/-- ITS FALSE NEIGHBOUR: 'it returns false'. Refute it at one input. -/
def stageLettersWrong : ChangeSpec := { name := "stageLetters", fn := fun _ => fun
  | [d1, d2, d3] => { results := [.lit (.bool false)], args := [d1, d2, d3] }
  | _ => none }
def StageLettersWrongFalsely : Prop := stageLettersRow.holds Try.pinned (OpenSpec.ofChange stageLettersWrong)

/-- 'reparteelaw13.StageOver': WHATEVER THE INPUT: true; the input reads as it did. -/
def stageOverSpec : ChangeSpec := { name := "stageOver", fn := fun _ => fun
  | [d1, d2, d3] => { results := [.lit (.bool true)], args := [d1, d2, d3] }
  | _ => none }
def stageOverRow : OpenClaim := { program := "ythjpcefjgmklfaa", sum := "1ddfdcdac2e2525e47364d50fc49ccf0fb2ac33fa6514207a289ea6c36739483", func := "repartee/reparteelaw13.StageOver", spec := "stageOver", unfollowed := true, recurses := true, plainKeys := false, apart := false }
def StageOverSaid : Prop := stageOverRow.holds Try.pinned (OpenSpec.ofChange stageOverSpec)

/-- ITS FALSE NEIGHBOUR: 'it returns false'. Refute it at one input. -/
def stageOverWrong : ChangeSpec := { name := "stageOver", fn := fun _ => fun
  | [d1, d2, d3] => { results := [.lit (.bool false)], args := [d1, d2, d3] }
  | _ => none }
def StageOverWrongFalsely : Prop := stageOverRow.holds Try.pinned (OpenSpec.ofChange stageOverWrong)

/- THE SECOND FORM. 'bulk': how many values and letters a reading holds, each counted each time it is reached (what is shared counts as often as it is met; a slice's spare places count too). A statement '..UptoSaid' is the law's where the arguments, and the package variables that the reading takes, are together of bulk at most 1048576: NARROWER than '..Said'. Prove '..Said' where nothing that the law and all that it calls make is longer than what came in: it says more and counts as full. Else prove '..UptoSaid'. A law counts once. -/
mutual
def uptoBulk {H : Type} : DataW H → Nat
  | .lit (.string bytes) => bytes.length + 1
  | .lit _ => 1
  | .nil => 1
  | .ptr d => uptoBulk d + 1
  | .slice elems spare => uptoBulkAll elems + uptoBulkAll spare + 1
  | .agg parts => uptoBulkAll parts + 1
  | .iface _ d => uptoBulk d + 1
  | .map entries => uptoBulkEntries entries + 1
  | .held _ => 1
def uptoBulkAll {H : Type} : List (DataW H) → Nat
  | [] => 0
  | d :: r => uptoBulk d + uptoBulkAll r
def uptoBulkEntries {H : Type} : List (Lit × DataW H) → Nat
  | [] => 0
  | x :: r => uptoBulkEntry x + uptoBulkEntries r
def uptoBulkEntry {H : Type} : Lit × DataW H → Nat
  | (.string bytes, d) => bytes.length + uptoBulk d + 1
  | (_, d) => uptoBulk d + 1
 end
def uptoSmall : (H : Type) → List (DataW H) → Bool := fun _ ds => decide (uptoBulkAll ds ≤ 1048576)
def OpenSpec.upto (s : _root_.Go.ChangeSpec) : _root_.Go.OpenSpec := { _root_.Go.OpenSpec.ofChange s with cond := some uptoSmall }

/-- 'reparteelaw11.UnderRow', WHERE WHAT IT READS IS OF BULK AT MOST 1048576: true; the input reads as it did. -/
def underRowUptoRow : OpenClaim := { program := "ythjpcefjgmklfaa", sum := "1ddfdcdac2e2525e47364d50fc49ccf0fb2ac33fa6514207a289ea6c36739483", func := "repartee/reparteelaw11.UnderRow", spec := "underRow", unfollowed := true, recurses := true, plainKeys := false, apart := false, narrowed := true }
def UnderRowUptoSaid : Prop := underRowUptoRow.holds Try.pinned (OpenSpec.upto underRowSpec)

/-- 'reparteelaw11.UnderPairs', WHERE WHAT IT READS IS OF BULK AT MOST 1048576: true; the input reads as it did. -/
def underPairsUptoRow : OpenClaim := { program := "ythjpcefjgmklfaa", sum := "1ddfdcdac2e2525e47364d50fc49ccf0fb2ac33fa6514207a289ea6c36739483", func := "repartee/reparteelaw11.UnderPairs", spec := "underPairs", unfollowed := true, recurses := true, plainKeys := false, apart := false, narrowed := true }
def UnderPairsUptoSaid : Prop := underPairsUptoRow.holds Try.pinned (OpenSpec.upto underPairsSpec)

/-- 'reparteelaw11.UnderSteps', WHERE WHAT IT READS IS OF BULK AT MOST 1048576: true; the input reads as it did. -/
def underStepsUptoRow : OpenClaim := { program := "ythjpcefjgmklfaa", sum := "1ddfdcdac2e2525e47364d50fc49ccf0fb2ac33fa6514207a289ea6c36739483", func := "repartee/reparteelaw11.UnderSteps", spec := "underSteps", unfollowed := true, recurses := true, plainKeys := false, apart := false, narrowed := true }
def UnderStepsUptoSaid : Prop := underStepsUptoRow.holds Try.pinned (OpenSpec.upto underStepsSpec)

/-- 'reparteelaw11.UnderFewer', WHERE WHAT IT READS IS OF BULK AT MOST 1048576: true; the input reads as it did. -/
def underFewerUptoRow : OpenClaim := { program := "ythjpcefjgmklfaa", sum := "1ddfdcdac2e2525e47364d50fc49ccf0fb2ac33fa6514207a289ea6c36739483", func := "repartee/reparteelaw11.UnderFewer", spec := "underFewer", unfollowed := true, recurses := true, plainKeys := false, apart := false, narrowed := true }
def UnderFewerUptoSaid : Prop := underFewerUptoRow.holds Try.pinned (OpenSpec.upto underFewerSpec)

/-- 'reparteelaw13.StageTells', WHERE WHAT IT READS IS OF BULK AT MOST 1048576: true; the input reads as it did. -/
def stageTellsUptoRow : OpenClaim := { program := "ythjpcefjgmklfaa", sum := "1ddfdcdac2e2525e47364d50fc49ccf0fb2ac33fa6514207a289ea6c36739483", func := "repartee/reparteelaw13.StageTells", spec := "stageTells", unfollowed := true, recurses := true, plainKeys := false, apart := false, narrowed := true }
def StageTellsUptoSaid : Prop := stageTellsUptoRow.holds Try.pinned (OpenSpec.upto stageTellsSpec)

/-- 'reparteelaw13.StagePlays', WHERE WHAT IT READS IS OF BULK AT MOST 1048576: true; the input reads as it did. -/
def stagePlaysUptoRow : OpenClaim := { program := "ythjpcefjgmklfaa", sum := "1ddfdcdac2e2525e47364d50fc49ccf0fb2ac33fa6514207a289ea6c36739483", func := "repartee/reparteelaw13.StagePlays", spec := "stagePlays", unfollowed := true, recurses := true, plainKeys := false, apart := false, narrowed := true }
def StagePlaysUptoSaid : Prop := stagePlaysUptoRow.holds Try.pinned (OpenSpec.upto stagePlaysSpec)

/-- 'reparteelaw13.StageDiamond', WHERE WHAT IT READS IS OF BULK AT MOST 1048576: true; the input reads as it did. -/
def stageDiamondUptoRow : OpenClaim := { program := "ythjpcefjgmklfaa", sum := "1ddfdcdac2e2525e47364d50fc49ccf0fb2ac33fa6514207a289ea6c36739483", func := "repartee/reparteelaw13.StageDiamond", spec := "stageDiamond", unfollowed := true, recurses := true, plainKeys := false, apart := false, narrowed := true }
def StageDiamondUptoSaid : Prop := stageDiamondUptoRow.holds Try.pinned (OpenSpec.upto stageDiamondSpec)

/-- 'reparteelaw13.StageLetters', WHERE WHAT IT READS IS OF BULK AT MOST 1048576: true; the input reads as it did. -/
def stageLettersUptoRow : OpenClaim := { program := "ythjpcefjgmklfaa", sum := "1ddfdcdac2e2525e47364d50fc49ccf0fb2ac33fa6514207a289ea6c36739483", func := "repartee/reparteelaw13.StageLetters", spec := "stageLetters", unfollowed := true, recurses := true, plainKeys := false, apart := false, narrowed := true }
def StageLettersUptoSaid : Prop := stageLettersUptoRow.holds Try.pinned (OpenSpec.upto stageLettersSpec)

/-- 'reparteelaw13.StageOver', WHERE WHAT IT READS IS OF BULK AT MOST 1048576: true; the input reads as it did. -/
def stageOverUptoRow : OpenClaim := { program := "ythjpcefjgmklfaa", sum := "1ddfdcdac2e2525e47364d50fc49ccf0fb2ac33fa6514207a289ea6c36739483", func := "repartee/reparteelaw13.StageOver", spec := "stageOver", unfollowed := true, recurses := true, plainKeys := false, apart := false, narrowed := true }
def StageOverUptoSaid : Prop := stageOverUptoRow.holds Try.pinned (OpenSpec.upto stageOverSpec)

end Rows
end Go.Proofs.Ythjpcefjgmklfaa
