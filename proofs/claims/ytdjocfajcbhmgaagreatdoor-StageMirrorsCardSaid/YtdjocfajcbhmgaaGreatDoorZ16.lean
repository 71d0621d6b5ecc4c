/- Layer: fields of elements of a pool's rows; a literal becomes a pool within a region; what lies in pools is told by a row of one's own. -/
import Derived.Test.YtdjocfajcbhmgaaGreatDoorZ14
import Derived.Test.YtdjocfajcbhmgaaGreatDoorZ13
import Derived.Test.YtdjocfajcbhmgaaGreatDoorBu1
import Derived.MapKept
import Derived.Test.YtdjocfajcbhmgaaGreatDoorZ7
import Derived.Test.YtdjocfajcbhmgaaGreatDoorSymZp
import Derived.Test.YtdjocfajcbhmgaaGreatDoorBn1
import Derived.Laws.StructEq
import Derived.Test.YtdjocfajcbhmgaaGreatDoorZ4
set_option linter.unusedSimpArgs false
set_option linter.unusedVariables false
set_option linter.unusedSectionVars false
namespace Go.Sy
open Go.RowKit
section
variable {C:Ctx} {n:Nat} {tm:TM} {mm:MM} {o:Oper} {d:Nat}
end
section
variable {C:Ctx} {n:Nat} {tm:TM} {mm:MM} {L l:List Oper} {T:TM→MM→Prop} {o:Oper} {d:Nat} {x y:Operand}
end
inductive Sg(sz:Nat)(qs:PQ):CT→CT→Prop
 |refl (c:CT):Sg sz qs c c
 |row {v:Value} {xs:List (List CT)} (h:(v,xs)∈qs):Sg sz qs (.val v) (.slice false sz xs)
inductive C8(sz:Nat)(qs:PQ):List CT→List CT→Prop
 |refl (l:List CT):C8 sz qs l l
 |cons {a b:CT} {x y:List CT} (h:Sg sz qs a b) (hr:C8 sz qs x y):C8 sz qs (a::x) (b::y)
inductive RG(sz:Nat)(qs:PQ):List (List CT)→List (List CT)→Prop
 |refl (l:List (List CT)):RG sz qs l l
 |cons {a b:List CT} {x y:List (List CT)} (h:C8 sz qs a b) (hr:RG sz qs x y):RG sz qs (a::x) (b::y)
theorem C8.get{sz:Nat}{qs:PQ}:∀{x y:List CT},C8 sz qs x y→x.length=y.length∧∀(j:Nat) (c:CT),y[j]? =some c→∃b,x[j]? =some b∧Sg sz qs b c
 |_,_,.refl l=>⟨rfl,fun j c h=>⟨c,h,.refl c⟩⟩
 |_,_,.cons h hr=>by
  obtain⟨h1,h2⟩:=hr.get
  refine⟨by simp[h1],fun j c hc=>?_⟩
  cases j with
  |zero=>simp at hc;subst hc;exact⟨_,by simp,h⟩
  |succ j=>simpa using h2 j c (by simpa using hc)
theorem RG.get{sz:Nat}{qs:PQ}:∀{xs ys:List (List CT)},RG sz qs xs ys→xs.length=ys.length∧∀(i:Nat) (y:List CT),ys[i]? =some y→∃x,xs[i]? =some x∧C8 sz qs x y
 |_,_,.refl l=>⟨rfl,fun j c h=>⟨c,h,.refl c⟩⟩
 |_,_,.cons h hr=>by
  obtain⟨h1,h2⟩:=hr.get
  refine⟨by simp[h1],fun j c hc=>?_⟩
  cases j with
  |zero=>simp at hc;subst hc;exact⟨_,by simp,h⟩
  |succ j=>simpa using h2 j c (by simpa using hc)
section
variable {C:Ctx} {n:Nat} {tm:TM} {mm:MM}
variable {f:FuncId} {R:Ending→World→Prop} {k:List Item}
end
section
variable {C:Ctx} {n:Nat} {L l:List Oper} {o:Oper} {d:Nat}
variable {ι:Type} {dc:TM} {ET:Nat→ι→TM} {ic:Nat→ι→MM} {k:Nat} {x:ι}
end
section
variable {C:Ctx} {n:Nat} {L l:List Oper} {tm cp:TM} {E:List Nat} {i:Nat} {mmf:Nat→MM} {TF:TM→Prop} {o:Oper} {d:Nat} {x:Operand}
end
section
variable {C:Ctx} {n:Nat} {L:List Oper} {tm:TM}
theorem xA.nil{ι:Type}{dc:TM}{ET:Nat→ι→TM}{m:Nat}:xA L dc ET m []:=trivial
end
section
variable {C:Ctx} {f:FuncId} {n:Nat} {R:Ending→World→Prop} {k:List Item} {tm:TM} {mm:MM}
end
section
variable {C:Ctx} {n:Nat} {tm:TM} {mm:MM} {o:Oper} {d:Nat} {α:Type} [DecidableEq α]
end
abbrev C9:=List (ByteArray×(Int×ByteArray))
def ur(m:C9)(a:ByteArray):Option (Int×ByteArray):=(m.find? fun q=>decide (a=q.1)).map (·.2)
def EA(m:C9)(a:ByteArray)(c:Int×ByteArray):C9:=
 match m.findIdx? fun q=>decide (a=q.1)with
 |some i=>m.set i (a,c)
 |none=>m++[(a,c)]
section
variable {C:Ctx} {n:Nat} {tm:TM} {mm:MM} {L l:List Oper} {T:TM→MM→Prop} {o:Oper} {d:Nat} {x y vx:Operand}
end
end Go.Sy
set_option linter.unusedSimpArgs false
set_option linter.unusedVariables false
set_option linter.unusedSectionVars false
namespace Go.Sy
open Go.Proofs
set_option maxRecDepth 100000
attribute [local irreducible] SOps Goes DOps EOps FOps GOps
section
variable {C:Ctx} {n:Nat} {tm cp:TM} {mm:MM} {L l:List Oper} {T:TM→Prop} {o:Oper} {d:Nat} {p q:Operand} {ty:TypeId}
end
section
variable {C:Ctx} {n:Nat} {tm cp:TM} {mm:MM} {L l:List Oper} {T:TM→Prop} {o:Oper} {d:Nat} {x:Operand}
end
variable {p:dr} {role:ByteArray} {S:List (List Int)} {set:List Int}
theorem Cc(hv:fK p=true)(role:ByteArray)(l:List Int):Jm (c6 p role l)∧(c6 p role l).length≤24∧∀x∈c6 p role l,0≤x∧x < (p.points.length:Int):=by
 have mZ:=sZ hv
 have hr:∀x∈c6 p role l,0≤x∧x < (p.points.length:Int):=fun x hx=>by
  have h1:=(cI.1 hx).1
  obtain⟨k,hk,rfl⟩:=aE.1 h1
  have:=cc.1 hk
  exact⟨Int.natCast_nonneg _,by show((k:Nat):Int) < _;omega⟩
 refine⟨fun x hx=>by have:=hr x hx;omega,?_,hr⟩
 have:=eG (fun x=>decide (x∈pW p role l)&&yN (dh p x) role) ((List.range p.points.length).map Int.ofNat)
 rw[aw,List.length_range]at this
 show(List.filter _ _).length≤24
 omega
structure C4(p:dr)(S:List (List Int)):Prop where
 BC:lG S
 small:∀m∈S,Jm m
theorem C4.look(h:C4 p S)(hv:fK p=true)(role:ByteArray)(set:List Int):C4 p (du p role S set).2:=by
 refine⟨s6 h.BC set,fun m hm=>?_⟩
 rcases kH (p:=p) (role:=role) S set with⟨_,e⟩|⟨_,_,e⟩|⟨_,_,_,e⟩|⟨_,_,_,e⟩
 ·rw[e]at hm;exact h.small m hm
 ·rw[e]at hm;exact h.small m hm
 ·rw[e]at hm;exact h.small m hm
 ·rw[e]at hm
  rcases aQ.1 hm with hm|hm
  ·exact h.small m hm
  ·rw[aH]at hm;subst hm;exact(Cc hv role set).1
end Go.Sy
set_option linter.unusedSimpArgs false
set_option linter.unusedVariables false
set_option linter.unusedSectionVars false
namespace Go.Sy
open Go.Proofs
set_option maxRecDepth 100000
abbrev FK:=List (ByteArray×Value×List Int)
def Ca(x:FK)(s:ByteArray):List Int:=((x.find? fun q=>decide (s=q.1)).map fun q=>q.2.2).getD []
def Ga(x:FK)(s:ByteArray)(v:Value)(n:Int):FK:=
 match x with
 |[]=>[(s,v,[n])]
 |q::x=>if s=q.1 then(s,v,q.2.2++[n])::x else q::Ga x s v n
theorem DD:∀(x:FK) (s:ByteArray) (v:Value) (n:Int) (s':ByteArray),Ca (Ga x s v n) s'=if s'=s then Ca x s++[n]else Ca x s'
 |[],s,v,n,s'=>by
  unfold Ga Ca
  by_cases h:s'=s<;>simp[h]
 |q::x,s,v,n,s'=>by
  have ih:=DD x s v n s'
  unfold Ca at ih
  unfold Ga Ca
  by_cases h:s=q.1
  ·rw[if_pos h]
   by_cases h':s'=s
   ·subst h';simp[h]
   ·have h2:¬s'=q.1:=fun e=>h' (e.trans h.symm)
    simp[h',h2]
  ·rw[if_neg h]
   by_cases h':s'=q.1
   ·have h2:¬s'=s:=fun e=>h (e.symm.trans h')
    rw[if_neg h2]
    simp[h']
   ·rw[iE (by simpa using h'),ih]
    by_cases h2:s'=s
    ·rw[if_pos h2,if_pos h2,iE (by simpa using h)]
    ·rw[if_neg h2,if_neg h2,iE (by simpa using h')]
section
variable {C:Ctx} {n:Nat} {tm:TM} {mm:MM} {o:Oper} {d:Nat}
end
section
variable {C:Ctx} {n:Nat} {tm cp:TM} {mmf:Nat→MM} {L l:List Oper} {TF:TM→Prop} {o:Oper} {d i:Nat} {p q:Operand} {E:List Nat}
end
section
variable {C:Ctx} {n:Nat} {L:List Oper} {ι:Type} {dc:TM} {ET:Nat→ι→TM} {ic:Nat→ι→MM} {k:Nat} {x:ι} {o:Oper} {p q r:Operand}
end
section
variable {C:Ctx} {n:Nat} {tm:TM} {mm:MM} {f:FuncId} {R:Ending→World→Prop} {k:List Item}
end
section
variable {C:Ctx} {n:Nat} {tm:TM} {mm:MM} {f:FuncId} {R:Ending→World→Prop} {k:List Item}
end
section
variable {C:Ctx} {n:Nat} {tm:TM} {mm:MM} {o:Oper} {d:Nat}
end
section
variable {C:Ctx} {n:Nat} {tm:TM} {mm:MM} {L l:List Oper} {T:TM→MM→Prop} {o:Oper} {d:Nat} {x y:Operand}
end
theorem EV(pre:List bM)(a:bM)(s:ByteArray):et (pre++[a]) s=if s=a.label then et pre s++[a.next]else et pre s:=by
 unfold et
 rw[List.filter_append,a6]
 by_cases h:s=a.label
 ·rw[if_pos h];simp[h]
 ·rw[if_neg h]
  have:¬a.label=s:=fun e=>h e.symm
  simp[this]
theorem rW(pre:List bM)(a:bM)(s:ByteArray):oV (pre++[a]) s=(oV pre s).or (if a.label=s then some (a.kind,a.name)else none):=by
 unfold oV
 rw[List.find?_append]
 cases pre.find? fun a=>decide (a.label=s)with
 |some b=>rfl
 |none=>
  by_cases h:a.label=s<;>simp[h]
theorem FD{pre:List bM}{b:bM}(h:b∈pre):(oV pre b.label).isSome=true:=by
 unfold oV
 rw[Option.isSome_map,List.find?_isSome]
 exact⟨b,h,by simp⟩
theorem CS{pre:List bM}(h:ir pre=false)(a:bM):ir (pre++[a])=decide (oV (pre++[a]) a.label≠some (a.kind,a.name)):=by
 unfold ir at h⊢
 rw[List.any_append]
 have h1:pre.any (fun b=>decide (oV (pre++[a]) b.label≠some (b.kind,b.name)))=false:=by
  rw[eo]at h⊢
  intro b hb
  have:=h b hb
  obtain⟨c,hc⟩:=Option.isSome_iff_exists.1 (FD hb)
  rw[rW,hc,Option.some_or]
  rw[hc]at this
  exact this
 rw[h1];simp
theorem Ez(q:ByteArray×(Int×ByteArray))(m:C9)(a:ByteArray)(c:Int×ByteArray):EA (q::m) a c=if a=q.1 then(a,c)::m else q::EA m a c:=by
 unfold EA
 rw[kV]
 by_cases h:a=q.1
 ·simp[h]
 ·simp only[h,decide_false,if_false,dS]
  cases m.findIdx? fun q=>decide (a=q.1)<;>simp
theorem wW:∀(m:C9) (a:ByteArray) (c:Int×ByteArray) (s:ByteArray),ur (EA m a c) s=if s=a then some c else ur m s
 |[],a,c,s=>by by_cases h:s=a<;>simp[EA,ur,h]
 |q::m,a,c,s=>by
  have ih:=wW m a c s
  rw[Ez]
  unfold ur at ih⊢
  by_cases h:a=q.1
  ·rw[if_pos h]
   by_cases h':s=a
   ·simp[h']
   ·have h2:¬s=q.1:=fun e=>h' (e.trans h.symm)
    simp[h',h2]
  ·rw[if_neg h]
   by_cases h':s=q.1
   ·have h2:¬s=a:=fun e=>h (e.symm.trans h')
    rw[if_neg h2];simp[h']
   ·rw[iE (by simpa using h'),ih]
    by_cases h2:s=a
    ·rw[if_pos h2,if_pos h2]
    ·rw[if_neg h2,if_neg h2,iE (by simpa using h')]
structure Jp(pre:List bM)(cm:C9)(x:FK):Prop where
 ok:ir pre=false
 Sd:∀s,ur cm s=oV pre s
 Uz:∀s,Ca x s=et pre s
theorem Jp.nil:Jp [] [] []:=⟨rfl,fun _=>rfl,fun _=>rfl⟩
theorem Jp.step{pre:List bM}{cm:C9}{x:FK}(h:Jp pre cm x)(a:bM)(b7:ur cm a.label=none∨ur cm a.label=some (a.kind,a.name))(v:Value):Jp (pre++[a]) (EA cm a.label (a.kind,a.name)) (Ga x a.label v a.next):=by
 have hc:oV (pre++[a]) a.label=some (a.kind,a.name):=by
  rw[rW,←h.Sd]
  rcases b7 with h1|h1<;>rw[h1]<;>simp
 refine⟨by rw[CS h.ok,hc];simp,fun s=>?_,fun s=>?_⟩
 ·rw[wW]
  by_cases hs:s=a.label
  ·rw[if_pos hs,hs,hc]
  ·rw[if_neg hs,h.Sd,rW,if_neg (fun e=>hs e.symm),Option.or_none]
 ·rw[DD,EV,h.Uz,h.Uz]
  by_cases hs:s=a.label
  ·rw[if_pos hs,if_pos hs,hs]
  ·rw[if_neg hs,if_neg hs]
section
variable {p:dr} {role:ByteArray} {S:List (List Int)} {cr r:List Int} {x0:Int}
end
def oa(p:dr)(role:ByteArray)(S:List (List Int)):Prop:=∀m∈S,∃l,m=c6 p role l
section
variable {p:dr} {role:ByteArray} {S:List (List Int)}
theorem oa.look(h:oa p role S)(set:List Int):oa p role (du p role S set).2:=by
 intro m hm
 rcases kH (p:=p) (role:=role) S set with⟨_,e⟩|⟨_,_,e⟩|⟨_,_,_,e⟩|⟨_,_,_,e⟩
 ·rw[e]at hm;exact h m hm
 ·rw[e]at hm;exact h m hm
 ·rw[e]at hm;exact h m hm
 ·rw[e]at hm
  rcases aQ.1 hm with hm|hm
  ·exact h m hm
  ·exact⟨set,aH.1 hm⟩
theorem oa.aP{arr:List bM}:∀(ls:List ByteArray) {out:List bM} {S:List (List Int)},oa p role S→oa p role (e6 p role arr ls out S).2
 |[],_,_,h=>h
 |s::ls,out,S,h=>by
  rw[e6]
  split
  ·exact oa.aP ls (h.look _)
  ·exact h.look _
theorem oa.tk(h:oa p role S)(cr:List Int):oa p role (fE p role S cr).2:=by
 unfold fE
 cases cr with
 |nil=>exact h
 |cons x0 r=>
  simp only
  repeat' split
  all_goals first|exact h|exact oa.aP _ h
end
section
open Go.RowKit
variable {C:Ctx} {n:Nat} {tm:TM} {mm:MM} {o:Oper} {d:Nat}
end
section
variable {C:Ctx} {n:Nat} {tm:TM} {mm:MM} {L l:List Oper} {T:TM→MM→Prop} {o:Oper} {d:Nat}
end
abbrev dx(l:List Loc):CT:=.slice false 2 (l.map Loc.cs)
abbrev Ry(r:(List Loc×Int)×Int):ST:=.gE [C1 (dx r.1.1),C1 (.int .i64 r.1.2),C1 (.int .i64 r.2)]
end Go.Sy
