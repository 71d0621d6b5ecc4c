/-
  No cell of these rows narrows 'for every input' (looked for: loops, veiled, ifaces, maps, wideKeys, modest, calm, conditions, laid).
  DERIVED. THE GIVEN ROWS OF THIS SEAT. 11 by the template 'for every input the law returns true; each argument reads behind the call as it read before'; 0 by the template 'total and deterministic' (their statements: YtadimhaolhpglaaTotals.lean).
  GIVEN WITH THE SEED: the statements are not yours to turn. If you find one false, say at which input.
  Laid BY PROGRAM, IN A SANDBOX (cutbox-rows.mjs): the forced cells as the released guide's own fill.sh prints them over the translation d48628c6d97859a4… (all of the seat's roots in one cut). By AI agents, Wed Nov 11 2026. No macro, syntax, notation, axiom, sorry.
-/
import Derived.Test.YtadimhaolhpglaaChecked
import GoSem.Claim
import GoSem.ClaimJoined
import GoSem.ClaimMapViews
import Derived.JoinedTies
import Derived.KernelRfl
namespace Go.Proofs.Ytadimhaolhpglaa
/- THE CELL 'sum', in the pinned program and in every row, IS THE sha256 OF THE DUMP (.gsa) THAT YtadimhaolhpglaaProg.lean LOADS. Nothing in Lean hashes anything: it is a label: what it is worth is what the hold of that sum in a sandbox is worth. -/
noncomputable def Try.pinned : Pinned := { name := "ytadimhaolhpglaa", sum := "d48628c6d97859a49e18fcc2f0041f15bd8b5551d85d94c2d8324e9f46b1d05c", checked := Try.checked }
namespace Rows
def none {H : Type} : Left H := { results := [], args := [] }

/-- 'reparteelaw7.GlobeNear': WHATEVER THE INPUT: true; the input reads as it did. -/
def globeNearSpec : ChangeSpec := { name := "globeNear", fn := fun _ => fun
  | [d1, d2, d3, d4] => { results := [.lit (.bool true)], args := [d1, d2, d3, d4] }
  | _ => none }
def globeNearRow : OpenClaim := { program := "ytadimhaolhpglaa", sum := "d48628c6d97859a49e18fcc2f0041f15bd8b5551d85d94c2d8324e9f46b1d05c", func := "repartee/reparteelaw7.GlobeNear", spec := "globeNear", inPlace := ["internal/bytealg.IndexByteString", "internal/bytealg.IndexString"], unfollowed := true, recurses := true, named := ["internal/bytealg.MaxLen"], apart := false }
def GlobeNearSaid : Prop := globeNearRow.holds Try.pinned (OpenSpec.ofChange globeNearSpec)

/-- ITS FALSE NEIGHBOUR: 'it returns false'. Refute it at one input. -/
def globeNearWrong : ChangeSpec := { name := "globeNear", fn := fun _ => fun
  | [d1, d2, d3, d4] => { results := [.lit (.bool false)], args := [d1, d2, d3, d4] }
  | _ => none }
def GlobeNearWrongFalsely : Prop := globeNearRow.holds Try.pinned (OpenSpec.ofChange globeNearWrong)

/-- 'reparteelaw7.GlobeSteps': WHATEVER THE INPUT: true; the input reads as it did. -/
def globeStepsSpec : ChangeSpec := { name := "globeSteps", fn := fun _ => fun
  | [d1, d2, d3] => { results := [.lit (.bool true)], args := [d1, d2, d3] }
  | _ => none }
def globeStepsRow : OpenClaim := { program := "ytadimhaolhpglaa", sum := "d48628c6d97859a49e18fcc2f0041f15bd8b5551d85d94c2d8324e9f46b1d05c", func := "repartee/reparteelaw7.GlobeSteps", spec := "globeSteps", inPlace := ["internal/bytealg.IndexByteString", "internal/bytealg.IndexString"], unfollowed := true, recurses := true, named := ["internal/bytealg.MaxLen"], apart := false }
def GlobeStepsSaid : Prop := globeStepsRow.holds Try.pinned (OpenSpec.ofChange globeStepsSpec)

/-- ITS FALSE NEIGHBOUR: 'it returns false'. Refute it at one input. -/
def globeStepsWrong : ChangeSpec := { name := "globeSteps", fn := fun _ => fun
  | [d1, d2, d3] => { results := [.lit (.bool false)], args := [d1, d2, d3] }
  | _ => none }
def GlobeStepsWrongFalsely : Prop := globeStepsRow.holds Try.pinned (OpenSpec.ofChange globeStepsWrong)

/-- 'reparteelaw6.TurnsTrim': WHATEVER THE INPUT: true; the input reads as it did. -/
def turnsTrimSpec : ChangeSpec := { name := "turnsTrim", fn := fun _ => fun
  | [d1, d2] => { results := [.lit (.bool true)], args := [d1, d2] }
  | _ => none }
def turnsTrimRow : OpenClaim := { program := "ytadimhaolhpglaa", sum := "d48628c6d97859a49e18fcc2f0041f15bd8b5551d85d94c2d8324e9f46b1d05c", func := "repartee/reparteelaw6.TurnsTrim", spec := "turnsTrim", inPlace := ["internal/bytealg.IndexByteString", "internal/bytealg.IndexString"], unfollowed := true, recurses := true, named := ["internal/bytealg.MaxLen"], apart := false }
def TurnsTrimSaid : Prop := turnsTrimRow.holds Try.pinned (OpenSpec.ofChange turnsTrimSpec)

/-- ITS FALSE NEIGHBOUR: 'it returns false'. Refute it at one input. -/
def turnsTrimWrong : ChangeSpec := { name := "turnsTrim", fn := fun _ => fun
  | [d1, d2] => { results := [.lit (.bool false)], args := [d1, d2] }
  | _ => none }
def TurnsTrimWrongFalsely : Prop := turnsTrimRow.holds Try.pinned (OpenSpec.ofChange turnsTrimWrong)

/-- 'reparteelaw6.TurnsPeers': WHATEVER THE INPUT: true; the input reads as it did. -/
def turnsPeersSpec : ChangeSpec := { name := "turnsPeers", fn := fun _ => fun
  | [d] => { results := [.lit (.bool true)], args := [d] }
  | _ => none }
def turnsPeersRow : OpenClaim := { program := "ytadimhaolhpglaa", sum := "d48628c6d97859a49e18fcc2f0041f15bd8b5551d85d94c2d8324e9f46b1d05c", func := "repartee/reparteelaw6.TurnsPeers", spec := "turnsPeers", inPlace := ["internal/bytealg.IndexByteString", "internal/bytealg.IndexString"], unfollowed := true, recurses := true, named := ["internal/bytealg.MaxLen"], apart := false }
def TurnsPeersSaid : Prop := turnsPeersRow.holds Try.pinned (OpenSpec.ofChange turnsPeersSpec)

/-- ITS FALSE NEIGHBOUR: 'it returns false'. Refute it at one input. -/
def turnsPeersWrong : ChangeSpec := { name := "turnsPeers", fn := fun _ => fun
  | [d] => { results := [.lit (.bool false)], args := [d] }
  | _ => none }
def TurnsPeersWrongFalsely : Prop := turnsPeersRow.holds Try.pinned (OpenSpec.ofChange turnsPeersWrong)

/-- 'reparteelaw6.TurnsMixed': WHATEVER THE INPUT: true; the input reads as it did. -/
def turnsMixedSpec : ChangeSpec := { name := "turnsMixed", fn := fun _ => fun
  | [d1, d2] => { results := [.lit (.bool true)], args := [d1, d2] }
  | _ => none }
def turnsMixedRow : OpenClaim := { program := "ytadimhaolhpglaa", sum := "d48628c6d97859a49e18fcc2f0041f15bd8b5551d85d94c2d8324e9f46b1d05c", func := "repartee/reparteelaw6.TurnsMixed", spec := "turnsMixed", inPlace := ["internal/bytealg.IndexByteString", "internal/bytealg.IndexString"], unfollowed := true, recurses := true, named := ["internal/bytealg.MaxLen"], apart := false }
def TurnsMixedSaid : Prop := turnsMixedRow.holds Try.pinned (OpenSpec.ofChange turnsMixedSpec)

/-- ITS FALSE NEIGHBOUR: 'it returns false'. Refute it at one input. -/
def turnsMixedWrong : ChangeSpec := { name := "turnsMixed", fn := fun _ => fun
  | [d1, d2] => { results := [.lit (.bool false)], args := [d1, d2] }
  | _ => none }
def TurnsMixedWrongFalsely : Prop := turnsMixedRow.holds Try.pinned (OpenSpec.ofChange turnsMixedWrong)

/-- 'reparteelaw6.TurnsWrong': WHATEVER THE INPUT: true; the input reads as it did. -/
def turnsWrongSpec : ChangeSpec := { name := "turnsWrong", fn := fun _ => fun
  | [d1, d2, d3] => { results := [.lit (.bool true)], args := [d1, d2, d3] }
  | _ => none }
def turnsWrongRow : OpenClaim := { program := "ytadimhaolhpglaa", sum := "d48628c6d97859a49e18fcc2f0041f15bd8b5551d85d94c2d8324e9f46b1d05c", func := "repartee/reparteelaw6.TurnsWrong", spec := "turnsWrong", inPlace := ["internal/bytealg.IndexByteString", "internal/bytealg.IndexString"], unfollowed := true, recurses := true, named := ["internal/bytealg.MaxLen"], apart := false }
def TurnsWrongSaid : Prop := turnsWrongRow.holds Try.pinned (OpenSpec.ofChange turnsWrongSpec)

/-- ITS FALSE NEIGHBOUR: 'it returns false'. Refute it at one input. -/
def turnsWrongWrong : ChangeSpec := { name := "turnsWrong", fn := fun _ => fun
  | [d1, d2, d3] => { results := [.lit (.bool false)], args := [d1, d2, d3] }
  | _ => none }
def TurnsWrongWrongFalsely : Prop := turnsWrongRow.holds Try.pinned (OpenSpec.ofChange turnsWrongWrong)

/-- 'reparteelaw12.MirrorAnswers': WHATEVER THE INPUT: true; the input reads as it did. -/
def mirrorAnswersSpec : ChangeSpec := { name := "mirrorAnswers", fn := fun _ => fun
  | [d1, d2] => { results := [.lit (.bool true)], args := [d1, d2] }
  | _ => none }
def mirrorAnswersRow : OpenClaim := { program := "ytadimhaolhpglaa", sum := "d48628c6d97859a49e18fcc2f0041f15bd8b5551d85d94c2d8324e9f46b1d05c", func := "repartee/reparteelaw12.MirrorAnswers", spec := "mirrorAnswers", inPlace := ["internal/bytealg.IndexByteString", "internal/bytealg.IndexString"], unfollowed := true, recurses := true, named := ["internal/bytealg.MaxLen"], apart := false }
def MirrorAnswersSaid : Prop := mirrorAnswersRow.holds Try.pinned (OpenSpec.ofChange mirrorAnswersSpec)

/-- ITS FALSE NEIGHBOUR: 'it returns false'. Refute it at one input. -/
def mirrorAnswersWrong : ChangeSpec := { name := "mirrorAnswers", fn := fun _ => fun
  | [d1, d2] => { results := [.lit (.bool false)], args := [d1, d2] }
  | _ => none }
def MirrorAnswersWrongFalsely : Prop := mirrorAnswersRow.holds Try.pinned (OpenSpec.ofChange mirrorAnswersWrong)

/-- 'reparteelaw12.MirrorTwice': WHATEVER THE INPUT: true; the input reads as it did. -/
def mirrorTwiceSpec : ChangeSpec := { name := "mirrorTwice", fn := fun _ => fun
  | [d] => { results := [.lit (.bool true)], args := [d] }
  | _ => none }
def mirrorTwiceRow : OpenClaim := { program := "ytadimhaolhpglaa", sum := "d48628c6d97859a49e18fcc2f0041f15bd8b5551d85d94c2d8324e9f46b1d05c", func := "repartee/reparteelaw12.MirrorTwice", spec := "mirrorTwice", inPlace := ["internal/bytealg.IndexByteString", "internal/bytealg.IndexString"], unfollowed := true, recurses := true, named := ["internal/bytealg.MaxLen"], apart := false }
def MirrorTwiceSaid : Prop := mirrorTwiceRow.holds Try.pinned (OpenSpec.ofChange mirrorTwiceSpec)

/-- ITS FALSE NEIGHBOUR: 'it returns false'. Refute it at one input. -/
def mirrorTwiceWrong : ChangeSpec := { name := "mirrorTwice", fn := fun _ => fun
  | [d] => { results := [.lit (.bool false)], args := [d] }
  | _ => none }
def MirrorTwiceWrongFalsely : Prop := mirrorTwiceRow.holds Try.pinned (OpenSpec.ofChange mirrorTwiceWrong)

/-- 'reparteelaw7.GlobeTurns': WHATEVER THE INPUT: true; the input reads as it did. -/
def globeTurnsSpec : ChangeSpec := { name := "globeTurns", fn := fun _ => fun
  | [d1, d2] => { results := [.lit (.bool true)], args := [d1, d2] }
  | _ => none }
def globeTurnsRow : OpenClaim := { program := "ytadimhaolhpglaa", sum := "d48628c6d97859a49e18fcc2f0041f15bd8b5551d85d94c2d8324e9f46b1d05c", func := "repartee/reparteelaw7.GlobeTurns", spec := "globeTurns", inPlace := ["internal/bytealg.IndexByteString", "internal/bytealg.IndexString"], unfollowed := true, recurses := true, named := ["internal/bytealg.MaxLen"], apart := false }
def GlobeTurnsSaid : Prop := globeTurnsRow.holds Try.pinned (OpenSpec.ofChange globeTurnsSpec)

/-- ITS FALSE NEIGHBOUR: 'it returns false'. Refute it at one input. -/
def globeTurnsWrong : ChangeSpec := { name := "globeTurns", fn := fun _ => fun
  | [d1, d2] => { results := [.lit (.bool false)], args := [d1, d2] }
  | _ => none }
def GlobeTurnsWrongFalsely : Prop := globeTurnsRow.holds Try.pinned (OpenSpec.ofChange globeTurnsWrong)

/-- 'reparteelaw7.GlobeTrim': WHATEVER THE INPUT: true; the input reads as it did. -/
def globeTrimSpec : ChangeSpec := { name := "globeTrim", fn := fun _ => fun
  | [d1, d2] => { results := [.lit (.bool true)], args := [d1, d2] }
  | _ => none }
def globeTrimRow : OpenClaim := { program := "ytadimhaolhpglaa", sum := "d48628c6d97859a49e18fcc2f0041f15bd8b5551d85d94c2d8324e9f46b1d05c", func := "repartee/reparteelaw7.GlobeTrim", spec := "globeTrim", inPlace := ["internal/bytealg.IndexByteString", "internal/bytealg.IndexString"], unfollowed := true, recurses := true, named := ["internal/bytealg.MaxLen"], apart := false }
def GlobeTrimSaid : Prop := globeTrimRow.holds Try.pinned (OpenSpec.ofChange globeTrimSpec)

/-- ITS FALSE NEIGHBOUR: 'it returns false'. Refute it at one input. -/
def globeTrimWrong : ChangeSpec := { name := "globeTrim", fn := fun _ => fun
  | [d1, d2] => { results := [.lit (.bool false)], args := [d1, d2] }
  | _ => none }
def GlobeTrimWrongFalsely : Prop := globeTrimRow.holds Try.pinned (OpenSpec.ofChange globeTrimWrong)

/-- 'reparteelaw7.GlobeWrong': WHATEVER THE INPUT: true; the input reads as it did. -/
def globeWrongSpec : ChangeSpec := { name := "globeWrong", fn := fun _ => fun
  | [d1, d2, d3] => { results := [.lit (.bool true)], args := [d1, d2, d3] }
  | _ => none }
def globeWrongRow : OpenClaim := { program := "ytadimhaolhpglaa", sum := "d48628c6d97859a49e18fcc2f0041f15bd8b5551d85d94c2d8324e9f46b1d05c", func := "repartee/reparteelaw7.GlobeWrong", spec := "globeWrong", inPlace := ["internal/bytealg.IndexByteString", "internal/bytealg.IndexString"], unfollowed := true, recurses := true, named := ["internal/bytealg.MaxLen"], apart := false }
def GlobeWrongSaid : Prop := globeWrongRow.holds Try.pinned (OpenSpec.ofChange globeWrongSpec)

/-- ITS FALSE NEIGHBOUR: 'it returns false'. Refute it at one input. -/
def globeWrongWrong : ChangeSpec := { name := "globeWrong", fn := fun _ => fun
  | [d1, d2, d3] => { results := [.lit (.bool false)], args := [d1, d2, d3] }
  | _ => none }
def GlobeWrongWrongFalsely : Prop := globeWrongRow.holds Try.pinned (OpenSpec.ofChange globeWrongWrong)

/- THE SECOND FORM. 'bulk': how many values and letters a reading holds, each counted each time it is reached (what is shared counts as often as it is met; a slice's spare places count too). A statement '..UptoSaid' is the law's where the arguments, and the package variables that the reading takes, are together of bulk at most 1048576: NARROWER than '..Said'. Prove '..Said' where nothing that the law and all that it calls make is longer than what came in: it says more and counts as full. Else prove '..UptoSaid'. A law counts once. -/
mutual
def uptoBulk {H : Type} : DataW H → Nat
  | .lit (.string bytes) => bytes.length + 1
  | .lit _ => 1
  | .nil => 1
  | .ptr d => uptoBulk d + 1
  | .slice elems spare => uptoBulkAll elems + uptoBulkAll spare + 1
  | .agg parts => uptoBulkAll parts + 1
  | .iface _ d => uptoBulk d + 1
  | .map entries => uptoBulkEntries entries + 1
  | .held _ => 1
def uptoBulkAll {H : Type} : List (DataW H) → Nat
  | [] => 0
  | d :: r => uptoBulk d + uptoBulkAll r
def uptoBulkEntries {H : Type} : List (Lit × DataW H) → Nat
  | [] => 0
  | x :: r => uptoBulkEntry x + uptoBulkEntries r
def uptoBulkEntry {H : Type} : Lit × DataW H → Nat
  | (.string bytes, d) => bytes.length + uptoBulk d + 1
  | (_, d) => uptoBulk d + 1
 end
def uptoSmall : (H : Type) → List (DataW H) → Bool := fun _ ds => decide (uptoBulkAll ds ≤ 1048576)
def OpenSpec.upto (s : _root_.Go.ChangeSpec) : _root_.Go.OpenSpec := { _root_.Go.OpenSpec.ofChange s with cond := some uptoSmall }

/-- 'reparteelaw7.GlobeNear', WHERE WHAT IT READS IS OF BULK AT MOST 1048576: true; the input reads as it did. -/
def globeNearUptoRow : OpenClaim := { program := "ytadimhaolhpglaa", sum := "d48628c6d97859a49e18fcc2f0041f15bd8b5551d85d94c2d8324e9f46b1d05c", func := "repartee/reparteelaw7.GlobeNear", spec := "globeNear", inPlace := ["internal/bytealg.IndexByteString", "internal/bytealg.IndexString"], unfollowed := true, recurses := true, named := ["internal/bytealg.MaxLen"], apart := false, narrowed := true }
def GlobeNearUptoSaid : Prop := globeNearUptoRow.holds Try.pinned (OpenSpec.upto globeNearSpec)

/-- 'reparteelaw7.GlobeSteps', WHERE WHAT IT READS IS OF BULK AT MOST 1048576: true; the input reads as it did. -/
def globeStepsUptoRow : OpenClaim := { program := "ytadimhaolhpglaa", sum := "d48628c6d97859a49e18fcc2f0041f15bd8b5551d85d94c2d8324e9f46b1d05c", func := "repartee/reparteelaw7.GlobeSteps", spec := "globeSteps", inPlace := ["internal/bytealg.IndexByteString", "internal/bytealg.IndexString"], unfollowed := true, recurses := true, named := ["internal/bytealg.MaxLen"], apart := false, narrowed := true }
def GlobeStepsUptoSaid : Prop := globeStepsUptoRow.holds Try.pinned (OpenSpec.upto globeStepsSpec)

/-- 'reparteelaw6.TurnsTrim', WHERE WHAT IT READS IS OF BULK AT MOST 1048576: true; the input reads as it did. -/
def turnsTrimUptoRow : OpenClaim := { program := "ytadimhaolhpglaa", sum := "d48628c6d97859a49e18fcc2f0041f15bd8b5551d85d94c2d8324e9f46b1d05c", func := "repartee/reparteelaw6.TurnsTrim", spec := "turnsTrim", inPlace := ["internal/bytealg.IndexByteString", "internal/bytealg.IndexString"], unfollowed := true, recurses := true, named := ["internal/bytealg.MaxLen"], apart := false, narrowed := true }
def TurnsTrimUptoSaid : Prop := turnsTrimUptoRow.holds Try.pinned (OpenSpec.upto turnsTrimSpec)

/-- 'reparteelaw6.TurnsPeers', WHERE WHAT IT READS IS OF BULK AT MOST 1048576: true; the input reads as it did. -/
def turnsPeersUptoRow : OpenClaim := { program := "ytadimhaolhpglaa", sum := "d48628c6d97859a49e18fcc2f0041f15bd8b5551d85d94c2d8324e9f46b1d05c", func := "repartee/reparteelaw6.TurnsPeers", spec := "turnsPeers", inPlace := ["internal/bytealg.IndexByteString", "internal/bytealg.IndexString"], unfollowed := true, recurses := true, named := ["internal/bytealg.MaxLen"], apart := false, narrowed := true }
def TurnsPeersUptoSaid : Prop := turnsPeersUptoRow.holds Try.pinned (OpenSpec.upto turnsPeersSpec)

/-- 'reparteelaw6.TurnsMixed', WHERE WHAT IT READS IS OF BULK AT MOST 1048576: true; the input reads as it did. -/
def turnsMixedUptoRow : OpenClaim := { program := "ytadimhaolhpglaa", sum := "d48628c6d97859a49e18fcc2f0041f15bd8b5551d85d94c2d8324e9f46b1d05c", func := "repartee/reparteelaw6.TurnsMixed", spec := "turnsMixed", inPlace := ["internal/bytealg.IndexByteString", "internal/bytealg.IndexString"], unfollowed := true, recurses := true, named := ["internal/bytealg.MaxLen"], apart := false, narrowed := true }
def TurnsMixedUptoSaid : Prop := turnsMixedUptoRow.holds Try.pinned (OpenSpec.upto turnsMixedSpec)

/-- 'reparteelaw6.TurnsWrong', WHERE WHAT IT READS IS OF BULK AT MOST 1048576: true; the input reads as it did. -/
def turnsWrongUptoRow : OpenClaim := { program := "ytadimhaolhpglaa", sum := "d48628c6d97859a49e18fcc2f0041f15bd8b5551d85d94c2d8324e9f46b1d05c", func := "repartee/reparteelaw6.TurnsWrong", spec := "turnsWrong", inPlace := ["internal/bytealg.IndexByteString", "internal/bytealg.IndexString"], unfollowed := true, recurses := true, named := ["internal/bytealg.MaxLen"], apart := false, narrowed := true }
def TurnsWrongUptoSaid : Prop := turnsWrongUptoRow.holds Try.pinned (OpenSpec.upto turnsWrongSpec)

/-- 'reparteelaw12.MirrorAnswers', WHERE WHAT IT READS IS OF BULK AT MOST 1048576: true; the input reads as it did. -/
def mirrorAnswersUptoRow : OpenClaim := { program := "ytadimhaolhpglaa", sum := "d48628c6d97859a49e18fcc2f0041f15bd8b5551d85d94c2d8324e9f46b1d05c", func := "repartee/reparteelaw12.MirrorAnswers", spec := "mirrorAnswers", inPlace := ["internal/bytealg.IndexByteString", "internal/bytealg.IndexString"], unfollowed := true, recurses := true, named := ["internal/bytealg.MaxLen"], apart := false, narrowed := true }
def MirrorAnswersUptoSaid : Prop := mirrorAnswersUptoRow.holds Try.pinned (OpenSpec.upto mirrorAnswersSpec)

/-- 'reparteelaw12.MirrorTwice', WHERE WHAT IT READS IS OF BULK AT MOST 1048576: true; the input reads as it did. -/
def mirrorTwiceUptoRow : OpenClaim := { program := "ytadimhaolhpglaa", sum := "d48628c6d97859a49e18fcc2f0041f15bd8b5551d85d94c2d8324e9f46b1d05c", func := "repartee/reparteelaw12.MirrorTwice", spec := "mirrorTwice", inPlace := ["internal/bytealg.IndexByteString", "internal/bytealg.IndexString"], unfollowed := true, recurses := true, named := ["internal/bytealg.MaxLen"], apart := false, narrowed := true }
def MirrorTwiceUptoSaid : Prop := mirrorTwiceUptoRow.holds Try.pinned (OpenSpec.upto mirrorTwiceSpec)

/-- 'reparteelaw7.GlobeTurns', WHERE WHAT IT READS IS OF BULK AT MOST 1048576: true; the input reads as it did. -/
def globeTurnsUptoRow : OpenClaim := { program := "ytadimhaolhpglaa", sum := "d48628c6d97859a49e18fcc2f0041f15bd8b5551d85d94c2d8324e9f46b1d05c", func := "repartee/reparteelaw7.GlobeTurns", spec := "globeTurns", inPlace := ["internal/bytealg.IndexByteString", "internal/bytealg.IndexString"], unfollowed := true, recurses := true, named := ["internal/bytealg.MaxLen"], apart := false, narrowed := true }
def GlobeTurnsUptoSaid : Prop := globeTurnsUptoRow.holds Try.pinned (OpenSpec.upto globeTurnsSpec)

/-- 'reparteelaw7.GlobeTrim', WHERE WHAT IT READS IS OF BULK AT MOST 1048576: true; the input reads as it did. -/
def globeTrimUptoRow : OpenClaim := { program := "ytadimhaolhpglaa", sum := "d48628c6d97859a49e18fcc2f0041f15bd8b5551d85d94c2d8324e9f46b1d05c", func := "repartee/reparteelaw7.GlobeTrim", spec := "globeTrim", inPlace := ["internal/bytealg.IndexByteString", "internal/bytealg.IndexString"], unfollowed := true, recurses := true, named := ["internal/bytealg.MaxLen"], apart := false, narrowed := true }
def GlobeTrimUptoSaid : Prop := globeTrimUptoRow.holds Try.pinned (OpenSpec.upto globeTrimSpec)

/-- 'reparteelaw7.GlobeWrong', WHERE WHAT IT READS IS OF BULK AT MOST 1048576: true; the input reads as it did. -/
def globeWrongUptoRow : OpenClaim := { program := "ytadimhaolhpglaa", sum := "d48628c6d97859a49e18fcc2f0041f15bd8b5551d85d94c2d8324e9f46b1d05c", func := "repartee/reparteelaw7.GlobeWrong", spec := "globeWrong", inPlace := ["internal/bytealg.IndexByteString", "internal/bytealg.IndexString"], unfollowed := true, recurses := true, named := ["internal/bytealg.MaxLen"], apart := false, narrowed := true }
def GlobeWrongUptoSaid : Prop := globeWrongUptoRow.holds Try.pinned (OpenSpec.upto globeWrongSpec)

end Rows
end Go.Proofs.Ytadimhaolhpglaa
