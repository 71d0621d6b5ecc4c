/- The data: edges, nodes, books. -/
import Derived.Test.YtadimhaolhpglaaSymT
import Derived.Test.YtadimhaolhpglaaSy4
set_option linter.unusedSimpArgs false
set_option linter.unusedVariables false
set_option linter.unusedSectionVars false
namespace Go.Sy
open Go.Proofs
set_option maxRecDepth 100000

structure Edge where
  label : ByteArray
  kind : Int
  at_ : Int
  next : Int
abbrev Edge.cs (e : Edge) : List CT := [.str e.label, .int .i64 e.kind, .int .i64 e.at_, .int .i64 e.next]
structure Nd where
  kind : Int
  peer : ByteArray
  arms : List Edge
abbrev armsT (l : List Edge) : CT := .slice false 4 (l.map Edge.cs)
abbrev Nd.cs (x : Nd) : List CT := [.int .i64 x.kind, .str x.peer, armsT x.arms]
structure Bk where
  nodes : List Nd
  names : List ByteArray
  roots : List Int
abbrev nodesT (l : List Nd) : CT := .slice false 3 (l.map Nd.cs)
abbrev namesT (l : List ByteArray) : CT := .slice false 1 (l.map fun s => [CT.str s])
abbrev intsT (l : List Int) : CT := .slice false 1 (l.map fun r => [CT.int .i64 r])
abbrev Bk.cs (b : Bk) : List CT := [nodesT b.nodes, namesT b.names, intsT b.roots]

/-- A frozen struct as a value. -/
abbrev Ag (l : List CT) : SV := .agg (l.map SC.c)
end Go.Sy
