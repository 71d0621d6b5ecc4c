/-
  NARROWER THAN 'FOR EVERY INPUT', by the rows' own cells (each row's printed sentence says how): EqualTells: laid · EqualRow: laid · EqualWalks: laid · EqualShrink: laid · EqualTwice: laid · UnderEqual: laid.
  DERIVED. THE GIVEN ROWS OF THIS SEAT. 6 by the template 'for every input the law returns true; each argument reads behind the call as it read before'; 0 by the template 'total and deterministic' (their statements: YthjpcefjgmklfaaDoorTotals.lean).
  GIVEN WITH THE SEED: the statements are not yours to turn. If you find one false, say at which input.
  Laid BY PROGRAM, IN A SANDBOX (cutbox-rows.mjs): the forced cells as the released guide's own fill.sh prints them over the translation b1d105c6b8e80bd3… (all of the seat's roots in one cut). By AI agents, Wed Nov 11 2026. No macro, syntax, notation, axiom, sorry.
-/
import Derived.Test.YthjpcefjgmklfaaDoorChecked
import GoSem.Claim
import GoSem.ClaimJoined
import GoSem.ClaimMapViews
import Derived.JoinedTies
import Derived.KernelRfl
namespace Go.Proofs.YthjpcefjgmklfaaDoor
/- THE CELL 'sum', in the pinned program and in every row, IS THE sha256 OF THE DUMP (.gsa) THAT YthjpcefjgmklfaaDoorProg.lean LOADS. Nothing in Lean hashes anything: it is a label: what it is worth is what the hold of that sum in a sandbox is worth. -/
noncomputable def Tryd.pinned : Pinned := { name := "ythjpcefjgmklfaadoor", sum := "b1d105c6b8e80bd3c7ccdc383eb50db5aa60200408381c1515c942fc153b4e68", checked := Tryd.checked }
namespace Rows
def none {H : Type} : Left H := { results := [], args := [] }

/- WHAT THE LISTED PACKAGE-LEVEL VARIABLES READ AS WHEN THE CALL BEGINS. Each datum BY PROGRAM (the guide's laid-datum.mjs) off the statement by which the dump's own 'gosem.cut.vars' lays the variable. In a bare row this is a premise. The card (YthjpcefjgmklfaaDoorCards.lean) ties it to the program's text. -/
def laid_math_bits_deBruijn32tab {H : Type} : DataW H := .agg [.lit (.int .u8 0), .lit (.int .u8 1), .lit (.int .u8 28), .lit (.int .u8 2), .lit (.int .u8 29), .lit (.int .u8 14), .lit (.int .u8 24), .lit (.int .u8 3), .lit (.int .u8 30), .lit (.int .u8 22), .lit (.int .u8 20), .lit (.int .u8 15), .lit (.int .u8 25), .lit (.int .u8 17), .lit (.int .u8 4), .lit (.int .u8 8), .lit (.int .u8 31), .lit (.int .u8 27), .lit (.int .u8 13), .lit (.int .u8 23), .lit (.int .u8 21), .lit (.int .u8 19), .lit (.int .u8 16), .lit (.int .u8 7), .lit (.int .u8 26), .lit (.int .u8 12), .lit (.int .u8 18), .lit (.int .u8 6), .lit (.int .u8 11), .lit (.int .u8 5), .lit (.int .u8 10), .lit (.int .u8 9)]
def laid_math_bits_deBruijn64tab {H : Type} : DataW H := .agg [.lit (.int .u8 0), .lit (.int .u8 1), .lit (.int .u8 56), .lit (.int .u8 2), .lit (.int .u8 57), .lit (.int .u8 49), .lit (.int .u8 28), .lit (.int .u8 3), .lit (.int .u8 61), .lit (.int .u8 58), .lit (.int .u8 42), .lit (.int .u8 50), .lit (.int .u8 38), .lit (.int .u8 29), .lit (.int .u8 17), .lit (.int .u8 4), .lit (.int .u8 62), .lit (.int .u8 47), .lit (.int .u8 59), .lit (.int .u8 36), .lit (.int .u8 45), .lit (.int .u8 43), .lit (.int .u8 51), .lit (.int .u8 22), .lit (.int .u8 53), .lit (.int .u8 39), .lit (.int .u8 33), .lit (.int .u8 30), .lit (.int .u8 24), .lit (.int .u8 18), .lit (.int .u8 12), .lit (.int .u8 5), .lit (.int .u8 63), .lit (.int .u8 55), .lit (.int .u8 48), .lit (.int .u8 27), .lit (.int .u8 60), .lit (.int .u8 41), .lit (.int .u8 37), .lit (.int .u8 16), .lit (.int .u8 46), .lit (.int .u8 35), .lit (.int .u8 44), .lit (.int .u8 21), .lit (.int .u8 52), .lit (.int .u8 32), .lit (.int .u8 23), .lit (.int .u8 11), .lit (.int .u8 54), .lit (.int .u8 26), .lit (.int .u8 40), .lit (.int .u8 15), .lit (.int .u8 34), .lit (.int .u8 20), .lit (.int .u8 31), .lit (.int .u8 10), .lit (.int .u8 25), .lit (.int .u8 14), .lit (.int .u8 19), .lit (.int .u8 9), .lit (.int .u8 13), .lit (.int .u8 8), .lit (.int .u8 7), .lit (.int .u8 6)]
def laid_internal_strconv_uint64pow10 {H : Type} : DataW H := .agg [.lit (.int .u64 1), .lit (.int .u64 10), .lit (.int .u64 100), .lit (.int .u64 1000), .lit (.int .u64 10000), .lit (.int .u64 100000), .lit (.int .u64 1000000), .lit (.int .u64 10000000), .lit (.int .u64 100000000), .lit (.int .u64 1000000000), .lit (.int .u64 10000000000), .lit (.int .u64 100000000000), .lit (.int .u64 1000000000000), .lit (.int .u64 10000000000000), .lit (.int .u64 100000000000000), .lit (.int .u64 1000000000000000), .lit (.int .u64 10000000000000000), .lit (.int .u64 100000000000000000), .lit (.int .u64 1000000000000000000), .lit (.int .u64 10000000000000000000)]

/-- 'reparteelaw10.EqualTells': WHATEVER THE INPUT: true; the input reads as it did. -/
def equalTellsSpec : ChangeSpec := { name := "equalTells", fn := fun _ => fun
  | [d1, d2, d3, d4] => { results := [.lit (.bool true)], args := [d1, d2, d3, d4] }
  | _ => none }
def equalTellsRow : OpenClaim := { program := "ythjpcefjgmklfaadoor", sum := "b1d105c6b8e80bd3c7ccdc383eb50db5aa60200408381c1515c942fc153b4e68", func := "repartee/reparteelaw10.EqualTells", spec := "equalTells", unfollowed := true, recurses := true, named := ["internal/strconv.uint64pow10", "math/bits.deBruijn32tab", "math/bits.deBruijn64tab"], plainKeys := false, apart := false, laid := [("math/bits.deBruijn32tab", laid_math_bits_deBruijn32tab), ("math/bits.deBruijn64tab", laid_math_bits_deBruijn64tab), ("internal/strconv.uint64pow10", laid_internal_strconv_uint64pow10)] }
def EqualTellsSaid : Prop := equalTellsRow.holds Tryd.pinned (OpenSpec.ofChange equalTellsSpec)

/-- ITS FALSE NEIGHBOUR: 'it returns false'. Refute it at one input. -/
def equalTellsWrong : ChangeSpec := { name := "equalTells", fn := fun _ => fun
  | [d1, d2, d3, d4] => { results := [.lit (.bool false)], args := [d1, d2, d3, d4] }
  | _ => none }
def EqualTellsWrongFalsely : Prop := equalTellsRow.holds Tryd.pinned (OpenSpec.ofChange equalTellsWrong)

/-- 'reparteelaw10.EqualRow': WHATEVER THE INPUT: true; the input reads as it did. -/
def equalRowSpec : ChangeSpec := { name := "equalRow", fn := fun _ => fun
  | [d1, d2, d3, d4] => { results := [.lit (.bool true)], args := [d1, d2, d3, d4] }
  | _ => none }
def equalRowRow : OpenClaim := { program := "ythjpcefjgmklfaadoor", sum := "b1d105c6b8e80bd3c7ccdc383eb50db5aa60200408381c1515c942fc153b4e68", func := "repartee/reparteelaw10.EqualRow", spec := "equalRow", unfollowed := true, recurses := true, named := ["internal/strconv.uint64pow10", "math/bits.deBruijn32tab", "math/bits.deBruijn64tab"], plainKeys := false, apart := false, laid := [("math/bits.deBruijn32tab", laid_math_bits_deBruijn32tab), ("math/bits.deBruijn64tab", laid_math_bits_deBruijn64tab), ("internal/strconv.uint64pow10", laid_internal_strconv_uint64pow10)] }
def EqualRowSaid : Prop := equalRowRow.holds Tryd.pinned (OpenSpec.ofChange equalRowSpec)

/-- ITS FALSE NEIGHBOUR: 'it returns false'. Refute it at one input. -/
def equalRowWrong : ChangeSpec := { name := "equalRow", fn := fun _ => fun
  | [d1, d2, d3, d4] => { results := [.lit (.bool false)], args := [d1, d2, d3, d4] }
  | _ => none }
def EqualRowWrongFalsely : Prop := equalRowRow.holds Tryd.pinned (OpenSpec.ofChange equalRowWrong)

/-- 'reparteelaw10.EqualWalks': WHATEVER THE INPUT: true; the input reads as it did. -/
def equalWalksSpec : ChangeSpec := { name := "equalWalks", fn := fun _ => fun
  | [d1, d2, d3, d4] => { results := [.lit (.bool true)], args := [d1, d2, d3, d4] }
  | _ => none }
def equalWalksRow : OpenClaim := { program := "ythjpcefjgmklfaadoor", sum := "b1d105c6b8e80bd3c7ccdc383eb50db5aa60200408381c1515c942fc153b4e68", func := "repartee/reparteelaw10.EqualWalks", spec := "equalWalks", unfollowed := true, recurses := true, named := ["internal/strconv.uint64pow10", "math/bits.deBruijn32tab", "math/bits.deBruijn64tab"], plainKeys := false, apart := false, laid := [("math/bits.deBruijn32tab", laid_math_bits_deBruijn32tab), ("math/bits.deBruijn64tab", laid_math_bits_deBruijn64tab), ("internal/strconv.uint64pow10", laid_internal_strconv_uint64pow10)] }
def EqualWalksSaid : Prop := equalWalksRow.holds Tryd.pinned (OpenSpec.ofChange equalWalksSpec)

/-- ITS FALSE NEIGHBOUR: 'it returns false'. Refute it at one input. -/
def equalWalksWrong : ChangeSpec := { name := "equalWalks", fn := fun _ => fun
  | [d1, d2, d3, d4] => { results := [.lit (.bool false)], args := [d1, d2, d3, d4] }
  | _ => none }
def EqualWalksWrongFalsely : Prop := equalWalksRow.holds Tryd.pinned (OpenSpec.ofChange equalWalksWrong)

/-- 'reparteelaw10.EqualShrink': WHATEVER THE INPUT: true; the input reads as it did. -/
def equalShrinkSpec : ChangeSpec := { name := "equalShrink", fn := fun _ => fun
  | [d1, d2] => { results := [.lit (.bool true)], args := [d1, d2] }
  | _ => none }
def equalShrinkRow : OpenClaim := { program := "ythjpcefjgmklfaadoor", sum := "b1d105c6b8e80bd3c7ccdc383eb50db5aa60200408381c1515c942fc153b4e68", func := "repartee/reparteelaw10.EqualShrink", spec := "equalShrink", unfollowed := true, recurses := true, named := ["internal/strconv.uint64pow10", "math/bits.deBruijn32tab", "math/bits.deBruijn64tab"], plainKeys := false, apart := false, laid := [("math/bits.deBruijn32tab", laid_math_bits_deBruijn32tab), ("math/bits.deBruijn64tab", laid_math_bits_deBruijn64tab), ("internal/strconv.uint64pow10", laid_internal_strconv_uint64pow10)] }
def EqualShrinkSaid : Prop := equalShrinkRow.holds Tryd.pinned (OpenSpec.ofChange equalShrinkSpec)

/-- ITS FALSE NEIGHBOUR: 'it returns false'. Refute it at one input. -/
def equalShrinkWrong : ChangeSpec := { name := "equalShrink", fn := fun _ => fun
  | [d1, d2] => { results := [.lit (.bool false)], args := [d1, d2] }
  | _ => none }
def EqualShrinkWrongFalsely : Prop := equalShrinkRow.holds Tryd.pinned (OpenSpec.ofChange equalShrinkWrong)

/-- 'reparteelaw10.EqualTwice': WHATEVER THE INPUT: true; the input reads as it did. -/
def equalTwiceSpec : ChangeSpec := { name := "equalTwice", fn := fun _ => fun
  | [d1, d2, d3] => { results := [.lit (.bool true)], args := [d1, d2, d3] }
  | _ => none }
def equalTwiceRow : OpenClaim := { program := "ythjpcefjgmklfaadoor", sum := "b1d105c6b8e80bd3c7ccdc383eb50db5aa60200408381c1515c942fc153b4e68", func := "repartee/reparteelaw10.EqualTwice", spec := "equalTwice", unfollowed := true, recurses := true, named := ["internal/strconv.uint64pow10", "math/bits.deBruijn32tab", "math/bits.deBruijn64tab"], plainKeys := false, apart := false, laid := [("math/bits.deBruijn32tab", laid_math_bits_deBruijn32tab), ("math/bits.deBruijn64tab", laid_math_bits_deBruijn64tab), ("internal/strconv.uint64pow10", laid_internal_strconv_uint64pow10)] }
def EqualTwiceSaid : Prop := equalTwiceRow.holds Tryd.pinned (OpenSpec.ofChange equalTwiceSpec)

/-- ITS FALSE NEIGHBOUR: 'it returns false'. Refute it at one input. -/
def equalTwiceWrong : ChangeSpec := { name := "equalTwice", fn := fun _ => fun
  | [d1, d2, d3] => { results := [.lit (.bool false)], args := [d1, d2, d3] }
  | _ => none }
def EqualTwiceWrongFalsely : Prop := equalTwiceRow.holds Tryd.pinned (OpenSpec.ofChange equalTwiceWrong)

/-- 'reparteelaw11.UnderEqual': WHATEVER THE INPUT: true; the input reads as it did. -/
def underEqualSpec : ChangeSpec := { name := "underEqual", fn := fun _ => fun
  | [d1, d2, d3, d4] => { results := [.lit (.bool true)], args := [d1, d2, d3, d4] }
  | _ => none }
def underEqualRow : OpenClaim := { program := "ythjpcefjgmklfaadoor", sum := "b1d105c6b8e80bd3c7ccdc383eb50db5aa60200408381c1515c942fc153b4e68", func := "repartee/reparteelaw11.UnderEqual", spec := "underEqual", unfollowed := true, recurses := true, named := ["internal/strconv.uint64pow10", "math/bits.deBruijn32tab", "math/bits.deBruijn64tab"], plainKeys := false, apart := false, laid := [("math/bits.deBruijn32tab", laid_math_bits_deBruijn32tab), ("math/bits.deBruijn64tab", laid_math_bits_deBruijn64tab), ("internal/strconv.uint64pow10", laid_internal_strconv_uint64pow10)] }
def UnderEqualSaid : Prop := underEqualRow.holds Tryd.pinned (OpenSpec.ofChange underEqualSpec)

/-- ITS FALSE NEIGHBOUR: 'it returns false'. Refute it at one input. -/
def underEqualWrong : ChangeSpec := { name := "underEqual", fn := fun _ => fun
  | [d1, d2, d3, d4] => { results := [.lit (.bool false)], args := [d1, d2, d3, d4] }
  | _ => none }
def UnderEqualWrongFalsely : Prop := underEqualRow.holds Tryd.pinned (OpenSpec.ofChange underEqualWrong)

/- THE SECOND FORM. 'bulk': how many values and letters a reading holds, each counted each time it is reached (what is shared counts as often as it is met; a slice's spare places count too). A statement '..UptoSaid' is the law's where the arguments, and the package variables that the reading takes, are together of bulk at most 1048576: NARROWER than '..Said'. Prove '..Said' where nothing that the law and all that it calls make is longer than what came in: it says more and counts as full. Else prove '..UptoSaid'. A law counts once. -/
mutual
def uptoBulk {H : Type} : DataW H → Nat
  | .lit (.string bytes) => bytes.length + 1
  | .lit _ => 1
  | .nil => 1
  | .ptr d => uptoBulk d + 1
  | .slice elems spare => uptoBulkAll elems + uptoBulkAll spare + 1
  | .agg parts => uptoBulkAll parts + 1
  | .iface _ d => uptoBulk d + 1
  | .map entries => uptoBulkEntries entries + 1
  | .held _ => 1
def uptoBulkAll {H : Type} : List (DataW H) → Nat
  | [] => 0
  | d :: r => uptoBulk d + uptoBulkAll r
def uptoBulkEntries {H : Type} : List (Lit × DataW H) → Nat
  | [] => 0
  | x :: r => uptoBulkEntry x + uptoBulkEntries r
def uptoBulkEntry {H : Type} : Lit × DataW H → Nat
  | (.string bytes, d) => bytes.length + uptoBulk d + 1
  | (_, d) => uptoBulk d + 1
 end
def uptoSmall : (H : Type) → List (DataW H) → Bool := fun _ ds => decide (uptoBulkAll ds ≤ 1048576)
def OpenSpec.upto (s : _root_.Go.ChangeSpec) : _root_.Go.OpenSpec := { _root_.Go.OpenSpec.ofChange s with cond := some uptoSmall }

/-- 'reparteelaw10.EqualTells', WHERE WHAT IT READS IS OF BULK AT MOST 1048576: true; the input reads as it did. -/
def equalTellsUptoRow : OpenClaim := { program := "ythjpcefjgmklfaadoor", sum := "b1d105c6b8e80bd3c7ccdc383eb50db5aa60200408381c1515c942fc153b4e68", func := "repartee/reparteelaw10.EqualTells", spec := "equalTells", unfollowed := true, recurses := true, named := ["internal/strconv.uint64pow10", "math/bits.deBruijn32tab", "math/bits.deBruijn64tab"], plainKeys := false, apart := false, laid := [("math/bits.deBruijn32tab", laid_math_bits_deBruijn32tab), ("math/bits.deBruijn64tab", laid_math_bits_deBruijn64tab), ("internal/strconv.uint64pow10", laid_internal_strconv_uint64pow10)], narrowed := true }
def EqualTellsUptoSaid : Prop := equalTellsUptoRow.holds Tryd.pinned (OpenSpec.upto equalTellsSpec)

/-- 'reparteelaw10.EqualRow', WHERE WHAT IT READS IS OF BULK AT MOST 1048576: true; the input reads as it did. -/
def equalRowUptoRow : OpenClaim := { program := "ythjpcefjgmklfaadoor", sum := "b1d105c6b8e80bd3c7ccdc383eb50db5aa60200408381c1515c942fc153b4e68", func := "repartee/reparteelaw10.EqualRow", spec := "equalRow", unfollowed := true, recurses := true, named := ["internal/strconv.uint64pow10", "math/bits.deBruijn32tab", "math/bits.deBruijn64tab"], plainKeys := false, apart := false, laid := [("math/bits.deBruijn32tab", laid_math_bits_deBruijn32tab), ("math/bits.deBruijn64tab", laid_math_bits_deBruijn64tab), ("internal/strconv.uint64pow10", laid_internal_strconv_uint64pow10)], narrowed := true }
def EqualRowUptoSaid : Prop := equalRowUptoRow.holds Tryd.pinned (OpenSpec.upto equalRowSpec)

/-- 'reparteelaw10.EqualWalks', WHERE WHAT IT READS IS OF BULK AT MOST 1048576: true; the input reads as it did. -/
def equalWalksUptoRow : OpenClaim := { program := "ythjpcefjgmklfaadoor", sum := "b1d105c6b8e80bd3c7ccdc383eb50db5aa60200408381c1515c942fc153b4e68", func := "repartee/reparteelaw10.EqualWalks", spec := "equalWalks", unfollowed := true, recurses := true, named := ["internal/strconv.uint64pow10", "math/bits.deBruijn32tab", "math/bits.deBruijn64tab"], plainKeys := false, apart := false, laid := [("math/bits.deBruijn32tab", laid_math_bits_deBruijn32tab), ("math/bits.deBruijn64tab", laid_math_bits_deBruijn64tab), ("internal/strconv.uint64pow10", laid_internal_strconv_uint64pow10)], narrowed := true }
def EqualWalksUptoSaid : Prop := equalWalksUptoRow.holds Tryd.pinned (OpenSpec.upto equalWalksSpec)

/-- 'reparteelaw10.EqualShrink', WHERE WHAT IT READS IS OF BULK AT MOST 1048576: true; the input reads as it did. -/
def equalShrinkUptoRow : OpenClaim := { program := "ythjpcefjgmklfaadoor", sum := "b1d105c6b8e80bd3c7ccdc383eb50db5aa60200408381c1515c942fc153b4e68", func := "repartee/reparteelaw10.EqualShrink", spec := "equalShrink", unfollowed := true, recurses := true, named := ["internal/strconv.uint64pow10", "math/bits.deBruijn32tab", "math/bits.deBruijn64tab"], plainKeys := false, apart := false, laid := [("math/bits.deBruijn32tab", laid_math_bits_deBruijn32tab), ("math/bits.deBruijn64tab", laid_math_bits_deBruijn64tab), ("internal/strconv.uint64pow10", laid_internal_strconv_uint64pow10)], narrowed := true }
def EqualShrinkUptoSaid : Prop := equalShrinkUptoRow.holds Tryd.pinned (OpenSpec.upto equalShrinkSpec)

/-- 'reparteelaw10.EqualTwice', WHERE WHAT IT READS IS OF BULK AT MOST 1048576: true; the input reads as it did. -/
def equalTwiceUptoRow : OpenClaim := { program := "ythjpcefjgmklfaadoor", sum := "b1d105c6b8e80bd3c7ccdc383eb50db5aa60200408381c1515c942fc153b4e68", func := "repartee/reparteelaw10.EqualTwice", spec := "equalTwice", unfollowed := true, recurses := true, named := ["internal/strconv.uint64pow10", "math/bits.deBruijn32tab", "math/bits.deBruijn64tab"], plainKeys := false, apart := false, laid := [("math/bits.deBruijn32tab", laid_math_bits_deBruijn32tab), ("math/bits.deBruijn64tab", laid_math_bits_deBruijn64tab), ("internal/strconv.uint64pow10", laid_internal_strconv_uint64pow10)], narrowed := true }
def EqualTwiceUptoSaid : Prop := equalTwiceUptoRow.holds Tryd.pinned (OpenSpec.upto equalTwiceSpec)

/-- 'reparteelaw11.UnderEqual', WHERE WHAT IT READS IS OF BULK AT MOST 1048576: true; the input reads as it did. -/
def underEqualUptoRow : OpenClaim := { program := "ythjpcefjgmklfaadoor", sum := "b1d105c6b8e80bd3c7ccdc383eb50db5aa60200408381c1515c942fc153b4e68", func := "repartee/reparteelaw11.UnderEqual", spec := "underEqual", unfollowed := true, recurses := true, named := ["internal/strconv.uint64pow10", "math/bits.deBruijn32tab", "math/bits.deBruijn64tab"], plainKeys := false, apart := false, laid := [("math/bits.deBruijn32tab", laid_math_bits_deBruijn32tab), ("math/bits.deBruijn64tab", laid_math_bits_deBruijn64tab), ("internal/strconv.uint64pow10", laid_internal_strconv_uint64pow10)], narrowed := true }
def UnderEqualUptoSaid : Prop := underEqualUptoRow.holds Tryd.pinned (OpenSpec.upto underEqualSpec)

end Rows
end Go.Proofs.YthjpcefjgmklfaaDoor
