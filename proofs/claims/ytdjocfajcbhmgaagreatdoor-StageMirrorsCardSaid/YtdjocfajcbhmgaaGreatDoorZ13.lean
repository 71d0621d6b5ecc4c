/- Contracts of the reference, bundle Bw1. -/
import Derived.Test.YtdjocfajcbhmgaaGreatDoorZ3
import Derived.Test.YtdjocfajcbhmgaaGreatDoorBu2
import Derived.Test.YtdjocfajcbhmgaaGreatDoorBu3
import Derived.Test.YtdjocfajcbhmgaaGreatDoorBu4
import Derived.Test.YtdjocfajcbhmgaaGreatDoorBn1
import Derived.Test.YtdjocfajcbhmgaaGreatDoorBu1
import Derived.Test.YtdjocfajcbhmgaaGreatDoorSy8
set_option linter.unusedSimpArgs false
set_option linter.unusedVariables false
set_option linter.unusedSectionVars false
namespace Go.Sy
open Go.Proofs
set_option maxRecDepth 100000
attribute [local irreducible] SOps Goes DOps EOps
def yI(p:dr):Prop:=∀x∈p.points,Ej x.aP
theorem OD{p:dr}(h:yI p):iv (OE p):=fun t ht=>by
 obtain⟨x,hx,rfl⟩:=aE.1 (show t∈List.map yM p.points from ht)
 rw[GW];exact h x hx
theorem CL{x:pL}(h:¬x.from_=⟨#[]⟩∨¬x.to=⟨#[]⟩∨(0:Int) < (x.aP.length:Int)):yM x=⟨1,x.to,x.aP⟩:=by
 unfold yM nb
 rw[if_neg]
 rcases h with h|h|h
 ·simp[h]
 ·simp[h]
 ·rw[lp,decide_eq_true h];simp
theorem Lp{x:pL}(h1:x.from_=⟨#[]⟩)(h2:x.to=⟨#[]⟩)(h3:¬(0:Int) < (x.aP.length:Int)):yM x=⟨0,⟨#[]⟩,x.aP⟩:=by
 unfold yM nb
 rw[if_pos]
 rw[lp,decide_eq_false h3,decide_eq_true h1,decide_eq_true h2];rfl
set_option maxHeartbeats 8000000 in
theorem Ld(p:dr)(hl:p.points.length≤24):dy Tryz.prog 67 [] [Ag p.cs] (.v (Ag (OE p).cs)) []:=by
 refine bd (c:=_) Tryz.func67 rfl rfl rfl (by decide) fun w M0 H Z=>?_
 repeat'(first|refine bH J ?_|(refine al ?_;refine aj th J ?_)|(refine au mix J J ?_;refine ak th J ?_)|(refine ao mix J J ?_;refine ay th J ?_)|refine SOps.nil ?_|refine DOps.nil ?_|refine EOps.nil ?_ rfl rfl|((first|refine aq J J ?_ ?_|refine av J J J ?_ ?_|refine aU J ?_ ?_)<;>intro hb<;>(try simp only[aF]at hb)<;>first|(exfalso;omega)|refine aj th J ?_|refine ak th J ?_|skip))
 refine l9 3 1 200 39 3 J J J J ?_
 refine bE (fun k:Nat=>k≤p.points.length)
  (fun k=>[(1,.v (.one (.ptr 1 0))),(2,.v (.one (.ptr 2 0))),(3,.v (.one (.ptr 3 0))),(8,.v (C1 (s3 p.points))),(9,.v (C1 (.int .i64 (p.points.length:Int)))),(10,.v (C1 (.int .i64 (k:Int))))])
  (fun k=>[(200,.arr false 39 3 (((p.points.take k).map yM).map fe.cs)),(3,.box [.c (.str ⟨#[]⟩),.own 200]),(2,.box [.c (.str ⟨#[]⟩),.c .bK]),(1,.box (p.cs.map SC.c))])
  (fun k=>p.points.length - k) 0 (aM _)
  (fun a w h=>h.sub (by exact⟨⟨_,rfl,.refl _⟩,⟨_,rfl,.refl _⟩,⟨_,rfl,.refl _⟩,⟨_,rfl,.refl _⟩,⟨_,rfl,aC (by simp)⟩,⟨_,rfl,aC J⟩,trivial⟩) (by exact⟨⟨_,rfl,dd J⟩,⟨_,rfl,.refl _⟩,⟨_,rfl,.refl _⟩,⟨_,rfl,.refl _⟩,trivial⟩) J J J) (fun k hk ih=>?_)
 by_cases bo:k < p.points.length
 ·have hx:(p.points.map pL.cs)[k]? =some (p.points[k]).cs:=by simp[bo]
  have Qk:((p.points.take (k+1)).map yM).map fe.cs=((p.points.take k).map yM).map fe.cs++[(yM p.points[k]).cs]:=by
   rw[aD bo,a6,a6];rfl
  have cS:=ih (k+1) bo (by omega)
  rw[Qk]at cS
  have Qg:(p.points.take k).length=k:=by simp;omega
  repeat'(first|refine bH J ?_|(refine al ?_;refine aj th J ?_)|(refine au mix J J ?_;refine ak th J ?_)|(refine ao mix J J ?_;refine ay th J ?_)|refine SOps.nil ?_|refine DOps.nil ?_|refine EOps.nil ?_ rfl rfl|((first|refine aq J J ?_ ?_|refine av J J J ?_ ?_|refine aU J ?_ ?_)<;>intro hb<;>(try simp only[aF]at hb)<;>first|(exfalso;omega)|refine aj th J ?_|refine ak th J ?_|skip)|(refine ch th J J J J J J J J J k _ J hx ?_;refine aj th J ?_)|(refine pj 3 1 J ?_;refine er th J J J J J J J J J J J J J J J (by constructor<;>simp[Qg]<;>omega) ?_;refine aj th J ?_)|(refine bO J J J J J J (by omega) ?_;refine aj th J ?_))
  all_goals first
   |rw[CL (.inl (by assumption))]at cS
   |rw[CL (.inr (.inl (by assumption)))]at cS
   |rw[CL (.inr (.inr (by assumption)))]at cS
   |rw[Lp (by assumption) (by assumption) (by assumption)]at cS
  all_goals exact bJ (by exact⟨⟨_,rfl,.refl _⟩,⟨_,rfl,.refl _⟩,⟨_,rfl,.refl _⟩,⟨_,rfl,.refl _⟩,⟨_,rfl,.refl _⟩,⟨_,rfl,aC (by omega)⟩,trivial⟩) (by exact⟨⟨_,rfl,dd J⟩,⟨_,rfl,.refl _⟩,⟨_,rfl,.refl _⟩,⟨_,rfl,.refl _⟩,trivial⟩) J J J cS
 ·rw[show p.points.take k=p.points from ek (by omega)]
  repeat'(first|(refine dZ 200 J J ?_)|refine bH J ?_|(refine al ?_;refine aj th J ?_)|(refine au mix J J ?_;refine ak th J ?_)|(refine ao mix J J ?_;refine ay th J ?_)|refine SOps.nil ?_|refine DOps.nil ?_|refine EOps.nil ?_ rfl rfl|((first|refine aq J J ?_ ?_|refine av J J J ?_ ?_|refine aU J ?_ ?_)<;>intro hb<;>(try simp only[aF]at hb)<;>first|(exfalso;omega)|refine aj th J ?_|refine ak th J ?_|skip))
  refine aT th Tryz.func67 (.inr ⟨_,rfl⟩) J J J ?_ rfl
  exact .refl _
theorem all_false{α:Type}{f:α→Bool}{l:List α}{i:Nat}(hi:i < l.length)(h:f l[i]=false):l.all f=false:=dH.2 ⟨l[i],az hi,by rw[h];decide⟩
theorem Bg{α:Type}{f:α→Bool}{l:List α}{i:Nat}(hi:i < l.length)(b7:(l.take i).all f=true)(h:f l[i]=true):(l.take (i+1)).all f=true:=by
 rw[aD hi,fl,b7];simp[h]
theorem AV(x:pL):nb x=(decide (x.from_=⟨#[]⟩)&&(decide (x.to=⟨#[]⟩)&&decide ((x.aP.length:Int)=0))):=by
 unfold nb
 cases h:x.aP<;>simp
 intro _ _;omega
section
variable {roles:List ByteArray} {x:pL}
theorem JZ(h1:x.from_=⟨#[]⟩)(h2:x.to=⟨#[]⟩)(h3:(x.aP.length:Int)=0):mv roles x=true:=by
 unfold mv;rw[AV,decide_eq_true h1,decide_eq_true h2,decide_eq_true h3];rfl
theorem tc(h:¬x.from_=⟨#[]⟩∨¬x.to=⟨#[]⟩∨¬(x.aP.length:Int)=0):nb x=false:=by
 rw[AV]
 rcases h with h|h|h
 ·rw[decide_eq_false h];rfl
 ·rw[decide_eq_false h];simp
 ·rw[decide_eq_false h];simp
theorem GK(h:¬x.from_=⟨#[]⟩∨¬x.to=⟨#[]⟩∨¬(x.aP.length:Int)=0)(h1:hasB roles x.from_=false):mv roles x=false:=by
 unfold mv;rw[tc h,h1];rfl
theorem GJ(h:¬x.from_=⟨#[]⟩∨¬x.to=⟨#[]⟩∨¬(x.aP.length:Int)=0)(h1:hasB roles x.to=false):mv roles x=false:=by
 unfold mv;rw[tc h,h1];simp
theorem GI(h:¬x.from_=⟨#[]⟩∨¬x.to=⟨#[]⟩∨¬(x.aP.length:Int)=0)(h1:x.from_=x.to):mv roles x=false:=by
 unfold mv;rw[tc h,decide_eq_false (p:=x.from_≠x.to) (fun h2=>h2 h1)];simp
theorem GH(h:¬x.from_=⟨#[]⟩∨¬x.to=⟨#[]⟩∨¬(x.aP.length:Int)=0)(h1:hasB roles x.from_=true)(h2:hasB roles x.to=true)(h3:¬x.from_=x.to):mv roles x=true:=by
 unfold mv;rw[tc h,h1,h2,decide_eq_true (p:=x.from_≠x.to) h3];rfl
end
set_option maxHeartbeats 16000000 in
theorem OG(p:dr)(hB:yI p):dy Tryz.prog 53 [] [Ag p.cs] (Rv (.bool (fK p))) []:=by
 rw[←Ka]
 refine bd (c:=_) Tryz.func53 rfl rfl rfl (by decide) fun w M0 H Z=>?_
 repeat'(first|(refine yq 1 1 J J fun mT=>?_;simp only[aw]at mT;refine al ?_;refine aj th J ?_)|refine bH J ?_|(refine al ?_;refine aj th J ?_)|(refine au mix J J ?_;refine ak th J ?_)|(refine ao mix J J ?_;refine ay th J ?_)|refine SOps.nil ?_|refine DOps.nil ?_|refine EOps.nil ?_ rfl rfl|((first|refine aq J J ?_ ?_|refine av J J J ?_ ?_|refine aU J ?_ ?_)<;>intro hb<;>(try simp only[aF]at hb)<;>first|(exfalso;omega)|refine aj th J ?_|refine ak th J ?_|skip)|refine aT th Tryz.func53 (.inr ⟨_,rfl⟩) J J J ?_ rfl|((first|refine aS (nB p.name) [] J J J J J J J J J J ?_|refine aS (Hl p.roles) [] J J J J J J J J J J ?_);refine aj th J ?_))
 ·exact fi (by unfold qw;simp[*])
 ·exact fi (by unfold qw;rw[decide_eq_false (p:=2≤p.roles.length) (by omega)];simp)
 ·exact fi (by unfold qw;rw[decide_eq_false (p:=p.roles.length≤5) (by omega)];simp)
 ·exact fi (by unfold qw;simp[*])
 ·exact fi (by unfold qw;rw[decide_eq_false (p:=p.points.length≤24) (by omega)];simp)
 have FW:bZ p.name=true:=by assumption
 have sQ:lR p.roles=true:=by assumption
 have AD:decide (2≤p.roles.length)=true:=decide_eq_true (by omega)
 have UI:decide (p.roles.length≤5)=true:=decide_eq_true (by omega)
 have Qz:decide (p.points.length≤24)=true:=decide_eq_true (by omega)
 have hg:qw p=(p.roles.all bZ&&(p.points.all (mv p.roles)&&c7 (OE p))):=by
  unfold qw;rw[FW,AD,UI,sQ,Qz];simp
 rw[hg]
 have Qy:p.points.length≤24:=by omega
 have hr5':p.roles.length≤5:=by omega
 clear hg FW sQ AD UI Qz
 refine bE (fun i:Nat=>i≤p.roles.length∧(p.roles.take i).all bZ=true)
  (fun i=>[(1,.v (.one (.ptr 1 0))),(36,.v (C1 (bh p.roles))),(37,.v (C1 (.int .i64 (p.roles.length:Int)))),(38,.v (C1 (.int .i64 (i:Int))))])
  (fun i=>[(1,.box (p.cs.map SC.c))])
  (fun i=>p.roles.length - i) 0 ⟨aM _,rfl⟩
  (fun a w h=>h.sub (by exact⟨⟨_,rfl,.refl _⟩,⟨_,rfl,.refl _⟩,⟨_,rfl,aC (by simp)⟩,⟨_,rfl,aC J⟩,trivial⟩) (by exact⟨⟨_,rfl,.refl _⟩,trivial⟩) J J J) (fun i hi ih=>?_)
 obtain⟨hi,b7⟩:=hi
 by_cases bo:i < p.roles.length
 ·have hx:(p.roles.map fun s=>[CT.str s])[i]? =some [.str p.roles[i]]:=by simp[bo]
  repeat'(first|refine bH J ?_|(refine al ?_;refine aj th J ?_)|(refine au mix J J ?_;refine ak th J ?_)|(refine ao mix J J ?_;refine ay th J ?_)|refine SOps.nil ?_|refine DOps.nil ?_|refine EOps.nil ?_ rfl rfl|((first|refine aq J J ?_ ?_|refine av J J J ?_ ?_|refine aU J ?_ ?_)<;>intro hb<;>(try simp only[aF]at hb)<;>first|(exfalso;omega)|refine aj th J ?_|refine ak th J ?_|skip)|refine aT th Tryz.func53 (.inr ⟨_,rfl⟩) J J J ?_ rfl|((first|refine ch th J J J J J J J J J i _ J hx ?_|refine aS (nB p.roles[i]) [] J J J J J J J J J J ?_|refine bO J J J J J J (by omega) ?_);refine aj th J ?_))
  ·exact fi (by rw[all_false bo (by assumption)];rfl)
  ·exact bJ (by exact⟨⟨_,rfl,.refl _⟩,⟨_,rfl,.refl _⟩,⟨_,rfl,.refl _⟩,⟨_,rfl,aC (by omega)⟩,trivial⟩) (by exact⟨⟨_,rfl,.refl _⟩,trivial⟩) J J J (ih (i+1) ⟨bo,Bg bo b7 (by assumption)⟩ (by omega))
 have gn:i=p.roles.length:=by omega
 rw[gn,bC]at b7
 rw[b7,bT]
 repeat'(first|refine bH J ?_|(refine al ?_;refine aj th J ?_)|(refine au mix J J ?_;refine ak th J ?_)|(refine ao mix J J ?_;refine ay th J ?_)|refine SOps.nil ?_|refine DOps.nil ?_|refine EOps.nil ?_ rfl rfl|((first|refine aq J J ?_ ?_|refine av J J J ?_ ?_|refine aU J ?_ ?_)<;>intro hb<;>(try simp only[aF]at hb)<;>first|(exfalso;omega)|refine aj th J ?_|refine ak th J ?_|skip))
 refine bE (fun i:Nat=>i≤p.points.length∧(p.points.take i).all (mv p.roles)=true)
  (fun i=>[(1,.v (.one (.ptr 1 0))),(47,.v (C1 (s3 p.points))),(48,.v (C1 (.int .i64 (p.points.length:Int)))),(49,.v (C1 (.int .i64 (i:Int))))])
  (fun i=>[(1,.box (p.cs.map SC.c))])
  (fun i=>p.points.length - i) 0 ⟨aM _,rfl⟩
  (fun a w h=>h.sub (by exact⟨⟨_,rfl,.refl _⟩,⟨_,rfl,.refl _⟩,⟨_,rfl,aC (by simp)⟩,⟨_,rfl,aC J⟩,trivial⟩) (by exact⟨⟨_,rfl,.refl _⟩,trivial⟩) J J J) (fun i hi ih=>?_)
 obtain⟨hi,b7⟩:=hi
 by_cases bo:i < p.points.length
 ·have hx:(p.points.map pL.cs)[i]? =some (p.points[i]).cs:=by simp[bo]
  obtain⟨x,RQ⟩:∃x,x=p.points[i]:=⟨_,rfl⟩
  rw[←RQ]at hx
  have gf:mv p.roles x=false→p.points.all (mv p.roles)=false:=fun h=>all_false bo (by rw[←RQ];exact h)
  have fj:mv p.roles x=true→(p.points.take (i+1)).all (mv p.roles)=true:=fun h=>Bg bo b7 (by rw[←RQ];exact h)
  clear RQ
  repeat'(first|refine bH J ?_|(refine al ?_;refine aj th J ?_)|(refine au mix J J ?_;refine ak th J ?_)|(refine ao mix J J ?_;refine ay th J ?_)|refine SOps.nil ?_|refine DOps.nil ?_|refine EOps.nil ?_ rfl rfl|((first|refine aq J J ?_ ?_|refine av J J J ?_ ?_|refine aU J ?_ ?_)<;>intro hb<;>(try simp only[aF]at hb)<;>first|(exfalso;omega)|refine aj th J ?_|refine ak th J ?_|skip)|refine aT th Tryz.func53 (.inr ⟨_,rfl⟩) J J J ?_ rfl|((first|refine ch th J J J J J J J J J i _ J hx ?_|refine aS (Iw p.roles x.from_) [] J J J J J J J J J J ?_|refine aS (Iw p.roles x.to) [] J J J J J J J J J J ?_|refine bO J J J J J J (by omega) ?_);refine aj th J ?_))
  all_goals first
   |exact fi (by rw[gf (GK (by first|exact .inl (by assumption)|exact .inr (.inl (by assumption))|exact .inr (.inr (by assumption))) (by assumption))];rfl)
   |exact fi (by rw[gf (GJ (by first|exact .inl (by assumption)|exact .inr (.inl (by assumption))|exact .inr (.inr (by assumption))) (by assumption))];rfl)
   |exact fi (by rw[gf (GI (by first|exact .inl (by assumption)|exact .inr (.inl (by assumption))|exact .inr (.inr (by assumption))) (by assumption))];rfl)
   |(have cS:=ih (i+1) ⟨bo,fj (JZ (by assumption) (by assumption) (by assumption))⟩ (by omega)
     exact bJ (by exact⟨⟨_,rfl,.refl _⟩,⟨_,rfl,.refl _⟩,⟨_,rfl,.refl _⟩,⟨_,rfl,aC (by omega)⟩,trivial⟩) (by exact⟨⟨_,rfl,.refl _⟩,trivial⟩) J J J cS)
   |(have cS:=ih (i+1) ⟨bo,fj (GH (by first|exact .inl (by assumption)|exact .inr (.inl (by assumption))|exact .inr (.inr (by assumption))) (by assumption) (by assumption) (by assumption))⟩ (by omega)
     exact bJ (by exact⟨⟨_,rfl,.refl _⟩,⟨_,rfl,.refl _⟩,⟨_,rfl,.refl _⟩,⟨_,rfl,aC (by omega)⟩,trivial⟩) (by exact⟨⟨_,rfl,.refl _⟩,trivial⟩) J J J cS)
 have gn:i=p.points.length:=by omega
 rw[gn,bC]at b7
 rw[b7,bT]
 repeat'(first|refine bH J ?_|(refine al ?_;refine aj th J ?_)|(refine au mix J J ?_;refine ak th J ?_)|(refine ao mix J J ?_;refine ay th J ?_)|refine SOps.nil ?_|refine DOps.nil ?_|refine EOps.nil ?_ rfl rfl|((first|refine aq J J ?_ ?_|refine av J J J ?_ ?_|refine aU J ?_ ?_)<;>intro hb<;>(try simp only[aF]at hb)<;>first|(exfalso;omega)|refine aj th J ?_|refine ak th J ?_|skip)|refine aT th Tryz.func53 (.inr ⟨_,rfl⟩) J J J ?_ rfl|((first|refine aS (Ld p Qy) [] J J J J J J J J J J ?_|refine aS (tt (OE p) (OD hB)) [] J J J J J J J J J J ?_);refine aj th J ?_))
 exact .refl _
end Go.Sy
namespace Go.Sy
open Go.Proofs Go.RowKit
set_option maxRecDepth 100000
attribute [local irreducible] Goes DOps EOps FOps
section
variable {C:Ctx} {n:Nat} {tm:TM} {mm:MM} {L l:List Oper} {T:TM→MM→Prop} {o:Oper} {d:Nat}
end
attribute [local irreducible] SOps
end Go.Sy
set_option linter.unusedSimpArgs false
set_option linter.unusedVariables false
set_option linter.unusedSectionVars false
namespace Go.Sy
open Go.RowKit
section
variable {C:Ctx} {n:Nat} {L:List Oper} {tm:TM}
end
section
variable {C:Ctx} {n:Nat} {L l:List Oper} {o:Oper} {d:Nat}
variable {ι:Type} {dc:TM} {ET:Nat→ι→TM} {ic:Nat→ι→MM} {k:Nat} {x:ι}
variable {tm cp:TM} {E:List Nat} {i:Nat} {mmf:Nat→MM} {TF:TM→Prop} {p q:Operand} {ty sI:TypeId}
end
section
variable {C:Ctx} {n:Nat} {tm:TM} {mm:MM} {o:Oper} {d:Nat} {x y:Operand}
end
section
variable {C:Ctx} {n:Nat} {tm:TM} {mm:MM} {L l:List Oper} {T:TM→MM→Prop} {o:Oper} {d:Nat} {x y:Operand}
end
section
variable {C:Ctx} {n:Nat} {tm cp:TM} {mm:MM} {L l:List Oper} {T:TM→Prop} {o:Oper} {d:Nat} {x y:Operand} {ty sI:TypeId}
end
section
variable {C:Ctx} {n:Nat} {tm:TM} {mm:MM} {L l:List Oper} {T:TM→MM→Prop} {o:Oper} {d:Nat} {x:Operand}
end
end Go.Sy
