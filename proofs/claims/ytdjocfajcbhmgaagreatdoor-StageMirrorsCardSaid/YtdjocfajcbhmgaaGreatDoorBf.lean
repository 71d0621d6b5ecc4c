/- Contracts: book.known, lost, named, large. -/
import Derived.Test.YtdjocfajcbhmgaaGreatDoorBe
import Derived.Test.YtdjocfajcbhmgaaGreatDoorBu4
set_option linter.unusedSimpArgs false
set_option linter.unusedVariables false
set_option linter.unusedSectionVars false
namespace Go.Sy
open Go.Proofs
set_option maxRecDepth 100000
attribute [local irreducible] SOps Goes DOps EOps FOps GOps
def n9(ps:List dr):Prop:=ps.length≤1000∧∀p∈ps,p.name.size≤100∧∀r∈p.roles,r.size≤100
set_option maxHeartbeats 16000000 in
theorem KL(ps:List dr)(ls:List Loc)(hB:n9 ps)(s:ByteArray):dy Tryz.prog 131 [] [C1 (cJ ps),C1 (dx ls),C1 (.str s)] (Rv (.bool (fN ps ls s))) []:=by
 obtain⟨K,hK⟩:∃K,K=fN ps ls s:=⟨_,rfl⟩
 rw[←hK]
 unfold fN at hK
 refine bd (c:=_) Tryz.func131 rfl rfl rfl (by decide) fun w M0 H Z=>?_
 refine gl 0 J fun mZ=>?_
 refine gl 1 J fun mT=>?_
 simp only[aw]at mZ mT
 repeat'(first|refine bH J ?_|(refine al ?_;refine aj th J ?_)|(refine au mix J J ?_;refine ak th J ?_)|(refine ao mix J J ?_;refine ay th J ?_)|refine SOps.nil ?_|refine DOps.nil ?_|refine EOps.nil ?_ rfl rfl|((first|refine aq J J ?_ ?_|refine av J J J ?_ ?_|refine aU J ?_ ?_)<;>intro hb<;>(try simp only[aF]at hb)<;>first|(exfalso;omega)|refine aj th J ?_|refine ak th J ?_|skip))
 refine bE (fun k:Nat=>k≤ls.length∧∀i (h:i < k) (h':i < ls.length),ls[i].name≠s)
  (fun k=>[(0,.v (C1 (cJ ps))),(2,.v (C1 (.str s))),(13,.v (C1 (dx ls))),(14,.v (C1 (.int .i64 (ls.length:Int)))),(15,.v (C1 (.int .i64 (k:Int))))])
  (fun _=>[]) (fun k=>ls.length - k) 0 ⟨aM _,fun i h=>by omega⟩
  (fun a w h=>h.sub (by exact⟨⟨_,rfl,.refl _⟩,⟨_,rfl,.refl _⟩,⟨_,rfl,.refl _⟩,⟨_,rfl,aC (by simp)⟩,⟨_,rfl,aC J⟩,trivial⟩) (by exact trivial) J J J) (fun k hk ih=>?_)
 obtain⟨hk,b7⟩:=hk
 by_cases bo:k < ls.length
 ·have hx:(ls.map Loc.cs)[k]? =some (ls[k]).cs:=by simp[bo]
  have cS:=fun hp=>ih (k+1) ⟨bo,hp⟩ (by omega)
  clear ih
  have gf:=fun(hb:ls[k].name=s)=>(show K=true by
   rw[hK,show(ls.any fun l=>decide (l.name=s))=true from cu.2 ⟨_,az bo,decide_eq_true hb⟩];rfl)
  have fj:=fun(hb:¬ls[k].name=s)=>(show ∀i (h:i < k+1) (h':i < ls.length),ls[i].name≠s from fun i h h'=>by
   by_cases kJ:i=k
   ·subst kJ;exact hb
   ·exact b7 i (by omega) h')
  clear hK b7
  repeat'(first|refine bH J ?_|(refine al ?_;refine aj th J ?_)|(refine au mix J J ?_;refine ak th J ?_)|(refine ao mix J J ?_;refine ay th J ?_)|refine SOps.nil ?_|refine DOps.nil ?_|refine EOps.nil ?_ rfl rfl|((first|refine aq J J ?_ ?_|refine av J J J ?_ ?_|refine aU J ?_ ?_)<;>intro hb<;>(try simp only[aF]at hb)<;>first|(exfalso;omega)|refine aj th J ?_|refine ak th J ?_|skip)|((first|refine ch th J J J J J J J J J k _ J hx ?_|refine bO J J J J J J (by omega) ?_);refine aj th J ?_))
  ·rw[gf (by assumption)]
   refine aT th Tryz.func131 (.inr ⟨_,rfl⟩) J J J ?_ rfl
   exact .refl _
  ·exact bJ (by exact⟨⟨_,rfl,.refl _⟩,⟨_,rfl,.refl _⟩,⟨_,rfl,.refl _⟩,⟨_,rfl,.refl _⟩,⟨_,rfl,aC (by omega)⟩,trivial⟩) (by exact trivial) J J J (cS (fj (by assumption)))
 ·clear ih
  have gn:k=ls.length:=by omega
  subst gn
  rw[show(ls.any fun l=>decide (l.name=s))=false from eo.2 fun l hl=>by
   obtain⟨i,hi,rfl⟩:=aB.1 hl
   simpa using b7 i hi hi,kv]at hK
  clear b7
  repeat'(first|refine bH J ?_|(refine al ?_;refine aj th J ?_)|(refine au mix J J ?_;refine ak th J ?_)|(refine ao mix J J ?_;refine ay th J ?_)|refine SOps.nil ?_|refine DOps.nil ?_|refine EOps.nil ?_ rfl rfl|((first|refine aq J J ?_ ?_|refine av J J J ?_ ?_|refine aU J ?_ ?_)<;>intro hb<;>(try simp only[aF]at hb)<;>first|(exfalso;omega)|refine aj th J ?_|refine ak th J ?_|skip))
  refine bE (fun k:Nat=>k≤ps.length∧∀i (h:i < k) (h':i < ps.length),ps[i].roles.any (fun r=>decide (kN ps[i].name r=s))=false)
   (fun k=>[(2,.v (C1 (.str s))),(24,.v (C1 (cJ ps))),(25,.v (C1 (.int .i64 (ps.length:Int)))),(26,.v (C1 (.int .i64 (k:Int))))])
   (fun _=>[]) (fun k=>ps.length - k) 0 ⟨aM _,fun i h=>by omega⟩
   (fun a w h=>h.sub (by exact⟨⟨_,rfl,.refl _⟩,⟨_,rfl,.refl _⟩,⟨_,rfl,aC (by simp)⟩,⟨_,rfl,aC J⟩,trivial⟩) (by exact trivial) J J J) (fun k hk ih=>?_)
  obtain⟨hk,b7⟩:=hk
  by_cases bo:k < ps.length
  ·have hx:(ps.map dr.cs)[k]? =some (ps[k]).cs:=by simp[bo]
   obtain⟨DR,s9⟩:=hB.2 _ (az bo)
   have cS:=fun hp=>ih (k+1) ⟨bo,hp⟩ (by omega)
   clear ih
   have gf:=fun(hb:(ps[k].roles.any fun r=>decide (kN ps[k].name r=s))=true)=>hK.trans (show(ps.any fun p=>p.roles.any fun r=>decide (kN p.name r=s))=true from cu.2 ⟨_,az bo,hb⟩)
   have fj:=fun(hb:(ps[k].roles.any fun r=>decide (kN ps[k].name r=s))=false)=>(show ∀i (h:i < k+1) (h':i < ps.length),(ps[i].roles.any fun r=>decide (kN ps[i].name r=s))=false from fun i h h'=>by
    by_cases kJ:i=k
    ·subst kJ;exact hb
    ·exact b7 i (by omega) h')
   have cS:=fun hb=>cS (fj hb)
   clear hK b7 fj
   generalize ps[k]=p at *
   repeat'(first|refine bH J ?_|(refine al ?_;refine aj th J ?_)|(refine au mix J J ?_;refine ak th J ?_)|(refine ao mix J J ?_;refine ay th J ?_)|refine SOps.nil ?_|refine DOps.nil ?_|refine EOps.nil ?_ rfl rfl|((first|refine aq J J ?_ ?_|refine av J J J ?_ ?_|refine aU J ?_ ?_)<;>intro hb<;>(try simp only[aF]at hb)<;>first|(exfalso;omega)|refine aj th J ?_|refine ak th J ?_|skip)|(refine ch th J J J J J J J J J k _ J hx ?_;refine aj th J ?_))
   refine gl 31 J fun Jx=>?_
   simp only[aw]at Jx
   refine bE (fun j:Nat=>j≤p.roles.length∧∀i (h:i < j) (h':i < p.roles.length),kN p.name p.roles[i]≠s)
    (fun j=>[(2,.v (C1 (.str s))),(24,.v (C1 (cJ ps))),(25,.v (C1 (.int .i64 (ps.length:Int)))),(26,.v (C1 (.int .i64 (k:Int)))),(10,.v (.one (.ptr 10 0))),(31,.v (C1 (bh p.roles))),(32,.v (C1 (.int .i64 (p.roles.length:Int)))),(33,.v (C1 (.int .i64 (j:Int))))])
    (fun _=>[(10,.box (p.cs.map SC.c))]) (fun j=>p.roles.length - j) 0 ⟨aM _,fun i h=>by omega⟩
    (fun a w h=>h.sub (by exact⟨⟨_,rfl,.refl _⟩,⟨_,rfl,.refl _⟩,⟨_,rfl,.refl _⟩,⟨_,rfl,.refl _⟩,⟨_,rfl,.refl _⟩,⟨_,rfl,.refl _⟩,⟨_,rfl,aC (by simp)⟩,⟨_,rfl,aC J⟩,trivial⟩) (by exact⟨⟨_,rfl,.refl _⟩,trivial⟩) J J J) (fun j hj oZ=>?_)
   obtain⟨hj,b7⟩:=hj
   by_cases eC:j < p.roles.length
   ·have NL:(p.roles.map fun s=>[CT.str s])[j]? =some [.str p.roles[j]]:=by simp[eC]
    have HZ:=s9 _ (az eC)
    have l3:=fun hp=>oZ (j+1) ⟨eC,hp⟩ (by omega)
    clear oZ cS
    have AM:=fun(hb:kN p.name p.roles[j]=s)=>gf (cu.2 ⟨_,az eC,decide_eq_true hb⟩)
    have fj:=fun(hb:¬kN p.name p.roles[j]=s)=>(show ∀i (h:i < j+1) (h':i < p.roles.length),kN p.name p.roles[i]≠s from fun i h h'=>by
     by_cases kJ:i=j
     ·subst kJ;exact hb
     ·exact b7 i (by omega) h')
    clear gf b7
    repeat'(first|refine bH J ?_|(refine al ?_;refine aj th J ?_)|(refine au mix J J ?_;refine ak th J ?_)|(refine ao mix J J ?_;refine ay th J ?_)|refine SOps.nil ?_|refine DOps.nil ?_|refine EOps.nil ?_ rfl rfl|((first|refine aq J J ?_ ?_|refine av J J J ?_ ?_|refine aU J ?_ ?_)<;>intro hb<;>(try simp only[aF]at hb)<;>first|(exfalso;omega)|refine aj th J ?_|refine ak th J ?_|skip)|(refine ch th J J J J J J J J J j _ J NL ?_;refine aj th J ?_)|(refine PK J J J J J J (by first|(simp only[ByteArray.size_append,show(ByteArray.mk #[46]).size=1 from rfl];omega)|(simp only[show(ByteArray.mk #[46]).size=1 from rfl];omega)) ?_;refine aj th J ?_)|(refine bO J J J J J J (by omega) ?_;refine aj th J ?_))
    ·rw[AM (by assumption)]
     refine aT th Tryz.func131 (.inr ⟨_,rfl⟩) J J J ?_ rfl
     exact .refl _
    ·exact bJ (by exact⟨⟨_,rfl,.refl _⟩,⟨_,rfl,.refl _⟩,⟨_,rfl,.refl _⟩,⟨_,rfl,.refl _⟩,⟨_,rfl,.refl _⟩,⟨_,rfl,.refl _⟩,⟨_,rfl,.refl _⟩,⟨_,rfl,aC (by omega)⟩,trivial⟩) (by exact⟨⟨_,rfl,.refl _⟩,trivial⟩) J J J (l3 (fj (by assumption)))
   ·clear oZ gf
    have AH:j=p.roles.length:=by omega
    subst AH
    have cS:=cS (eo.2 fun r hr=>by
     obtain⟨i,hi,rfl⟩:=aB.1 hr
     simpa using b7 i hi hi)
    clear b7
    repeat'(first|refine bH J ?_|(refine al ?_;refine aj th J ?_)|(refine au mix J J ?_;refine ak th J ?_)|(refine ao mix J J ?_;refine ay th J ?_)|refine SOps.nil ?_|refine DOps.nil ?_|refine EOps.nil ?_ rfl rfl|((first|refine aq J J ?_ ?_|refine av J J J ?_ ?_|refine aU J ?_ ?_)<;>intro hb<;>(try simp only[aF]at hb)<;>first|(exfalso;omega)|refine aj th J ?_|refine ak th J ?_|skip)|(refine bO J J J J J J (by omega) ?_;refine aj th J ?_))
    exact bJ (by exact⟨⟨_,rfl,.refl _⟩,⟨_,rfl,.refl _⟩,⟨_,rfl,.refl _⟩,⟨_,rfl,aC (by omega)⟩,trivial⟩) (by exact trivial) J J J cS
  ·clear ih
   have gn:k=ps.length:=by omega
   subst gn
   rw[show(ps.any fun p=>p.roles.any fun r=>decide (kN p.name r=s))=false from eo.2 fun p hp=>by
    obtain⟨i,hi,rfl⟩:=aB.1 hp
    simpa using b7 i hi hi]at hK
   rw[hK]
   repeat'(first|refine bH J ?_|(refine al ?_;refine aj th J ?_)|(refine au mix J J ?_;refine ak th J ?_)|(refine ao mix J J ?_;refine ay th J ?_)|refine SOps.nil ?_|refine DOps.nil ?_|refine EOps.nil ?_ rfl rfl|((first|refine aq J J ?_ ?_|refine av J J J ?_ ?_|refine aU J ?_ ?_)<;>intro hb<;>(try simp only[aF]at hb)<;>first|(exfalso;omega)|refine aj th J ?_|refine ak th J ?_|skip)|refine aT th Tryz.func131 (.inr ⟨_,rfl⟩) J J J ?_ rfl)
   all_goals exact .refl _
set_option maxHeartbeats 4000000 in
theorem As(p:bM→Bool)(l:List bM)(g:Nat)(c0 c1:CT)
 (hc:∀e:bM,dy Tryz.prog g [[c0],[c1]] [Ag e.cs,.one (.ptr given 0),.one (.ptr (given+1) 0)] (Rv (.bool (p e))) [[c0],[c1]]):
 dy Tryz.prog 58 [[c0],[c1]] [C1 (kc l),.one (.ku g [given,given+1])] (Rv (.int .i64 (fb p l))) [[c0],[c1]]:=by
 refine bd (c:=_) Tryz.func58 rfl rfl rfl (by decide) fun w M0 H Z=>?_
 repeat'(first|refine bH J ?_|(refine al ?_;refine aj th J ?_)|(refine au mix J J ?_;refine ak th J ?_)|(refine ao mix J J ?_;refine ay th J ?_)|refine SOps.nil ?_|refine DOps.nil ?_|refine EOps.nil ?_ rfl rfl|((first|refine aq J J ?_ ?_|refine av J J J ?_ ?_|refine aU J ?_ ?_)<;>intro hb<;>(try simp only[aF]at hb)<;>first|(exfalso;omega)|refine aj th J ?_|refine ak th J ?_|skip)|refine fk th Tryz.func58 (.inr ⟨_,rfl⟩) J J J ⟨?_,rfl⟩)
 all_goals try simp only[aw]at *
 refine gl 6 J fun mT=>?_
 simp only[aw]at mT
 refine bE (fun k:Nat=>k≤l.length∧∀i (h:i < k) (h':i < l.length),p l[i]=false)
  (fun k=>[(0,.v (C1 (kc l))),(1,.v (.one (.ku g [given,given+1]))),(7,.v (C1 (.int .i64 (l.length:Int)))),(8,.v (C1 (.int .i64 (k:Int))))])
  (fun _=>[(given,.box [.c c0]),(given+1,.box [.c c1])]) (fun k=>l.length - k) 0 ⟨aM _,fun i h=>by omega⟩
  (fun a w h=>h.sub (by exact⟨⟨_,rfl,.refl _⟩,⟨_,rfl,.refl _⟩,⟨_,rfl,aC (by simp)⟩,⟨_,rfl,aC J⟩,trivial⟩) (by exact⟨⟨_,rfl,.refl _⟩,⟨_,rfl,.refl _⟩,trivial⟩) J J J) (fun k hk ih=>?_)
 obtain⟨hk,ha⟩:=hk
 by_cases bo:k < l.length
 ·have hx:(l.map bM.cs)[k]? =some (l[k]).cs:=by simp[bo]
  repeat'(first|refine bH J ?_|(refine al ?_;refine aj th J ?_)|(refine au mix J J ?_;refine ak th J ?_)|(refine ao mix J J ?_;refine ay th J ?_)|refine SOps.nil ?_|refine DOps.nil ?_|refine EOps.nil ?_ rfl rfl|((first|refine aq J J ?_ ?_|refine av J J J ?_ ?_|refine aU J ?_ ?_)<;>intro hb<;>(try simp only[aF]at hb)<;>first|(exfalso;omega)|refine aj th J ?_|refine ak th J ?_|skip)|refine fk th Tryz.func58 (.inr ⟨_,rfl⟩) J J J ⟨?_,rfl⟩|((first|refine ch th J J J J J J J J J k _ J hx ?_|refine oW (hc l[k]) [given,given+1] J J J J J J J J J J J J ?_|refine bO J J J J J J (by omega) ?_);refine aj th J ?_))
  ·simp[dI,gX bo (fun i h=>ha i h (by omega)) hb]
  ·refine bJ (by exact⟨⟨_,rfl,.refl _⟩,⟨_,rfl,.refl _⟩,⟨_,rfl,.refl _⟩,⟨_,rfl,aC (by omega)⟩,trivial⟩) (by exact⟨⟨_,rfl,.refl _⟩,⟨_,rfl,.refl _⟩,trivial⟩) J J J (ih (k+1) ⟨bo,fun i h h'=>?_⟩ (by omega))
   by_cases kJ:i=k
   ·subst kJ;exact hb
   ·exact ha i (by omega) h'
 ·have gn:k=l.length:=by omega
  subst gn
  repeat'(first|refine bH J ?_|(refine al ?_;refine aj th J ?_)|(refine au mix J J ?_;refine ak th J ?_)|(refine ao mix J J ?_;refine ay th J ?_)|refine SOps.nil ?_|refine DOps.nil ?_|refine EOps.nil ?_ rfl rfl|((first|refine aq J J ?_ ?_|refine av J J J ?_ ?_|refine aU J ?_ ?_)<;>intro hb<;>(try simp only[aF]at hb)<;>first|(exfalso;omega)|refine aj th J ?_|refine ak th J ?_|skip)|refine fk th Tryz.func58 (.inr ⟨_,rfl⟩) J J J ⟨?_,rfl⟩)
  all_goals simp[dI,dv (fun i h=>ha i h h)]
theorem HS{α:Type}{p:α→Bool}{l:List α}:decide (fb p l≥0)=l.any p:=by
 cases hi:l.findIdx? p with
 |none=>
  rw[show fb p l=-1 by simp[fb,hi]]
  rw[bL]at hi
  symm;simp;exact hi
 |some i=>
  rw[show fb p l=(i:Int) by simp[fb,hi]]
  rw[bB]at hi
  obtain⟨h1,h2,_⟩:=hi
  symm;simp;exact⟨l[i],az h1,h2⟩
theorem uU(p:bM→Bool)(l:List bM)(g:Nat)(c0 c1:CT)
 (hc:∀e:bM,dy Tryz.prog g [[c0],[c1]] [Ag e.cs,.one (.ptr given 0),.one (.ptr (given+1) 0)] (Rv (.bool (p e))) [[c0],[c1]]):
 dy Tryz.prog 129 [[c0],[c1]] [C1 (kc l),.one (.ku g [given,given+1])] (Rv (.bool (l.any p))) [[c0],[c1]]:=by
 have dB:=As p l g c0 c1 hc
 rw[←HS]
 refine bd (c:=_) Tryz.func129 rfl rfl rfl (by decide) fun w M0 H Z=>?_
 repeat'(first|refine bH J ?_|(refine al ?_;refine aj th J ?_)|(refine au mix J J ?_;refine ak th J ?_)|(refine ao mix J J ?_;refine ay th J ?_)|refine SOps.nil ?_|refine DOps.nil ?_|refine EOps.nil ?_ rfl rfl|((first|refine aq J J ?_ ?_|refine av J J J ?_ ?_|refine aU J ?_ ?_)<;>intro hb<;>(try simp only[aF]at hb)<;>first|(exfalso;omega)|refine aj th J ?_|refine ak th J ?_|skip)|refine fk th Tryz.func129 (.inr ⟨_,rfl⟩) J J J ⟨?_,rfl⟩|(refine aS dB [given,given+1] J J J J J J J J J J ?_;refine aj th J ?_))
 all_goals simp[dI]
theorem KG(ps:List dr)(ls:List Loc)(hB:n9 ps)(a:bM):dy Tryz.prog 130 [[cJ ps],[dx ls]] [Ag a.cs,.one (.ptr given 0),.one (.ptr (given+1) 0)] (Rv (.bool (decide (a.kind=5)&&!fN ps ls a.name))) [[cJ ps],[dx ls]]:=by
 have dB:=KL ps ls hB a.name
 by_cases h5:a.kind=5
 all_goals
  simp only[h5,decide_true,decide_false,bT,Bool.false_and]
  refine bd (c:=_) Tryz.func130 rfl rfl rfl (by decide) fun w M0 H Z=>?_
  repeat'(first|(exfalso;exact hb h5)|(exfalso;exact h5 hb)|refine bH J ?_|(refine al ?_;refine aj th J ?_)|(refine au mix J J ?_;refine ak th J ?_)|(refine ao mix J J ?_;refine ay th J ?_)|refine SOps.nil ?_|refine DOps.nil ?_|refine EOps.nil ?_ rfl rfl|((first|refine aq J J ?_ ?_|refine av J J J ?_ ?_|refine aU J ?_ ?_)<;>intro hb<;>(try simp only[aF]at hb)<;>first|(exfalso;omega)|refine aj th J ?_|refine ak th J ?_|skip)|refine aT th Tryz.func130 (.inr ⟨_,rfl⟩) J J J ?_ rfl|(refine aS dB [] J J J J J J J J J J ?_;refine aj th J ?_))
  all_goals first|exact .refl _|(exfalso;revert hb;simp[h5];done)|(exact fi (by simp[h5]))
theorem LF(ps:List dr)(ls:List Loc)(hB:n9 ps)(aP:List bM):dy Tryz.prog 92 [] [C1 (cJ ps),C1 (dx ls),C1 (kc aP)] (Rv (.bool (jM (fN ps ls) aP))) []:=by
 have dB:=uU _ aP _ _ _ (KG ps ls hB)
 unfold jM
 refine bd (c:=_) Tryz.func92 rfl rfl rfl (by decide) fun w M0 H Z=>?_
 repeat'(first|refine bH J ?_|(refine al ?_;refine aj th J ?_)|(refine au mix J J ?_;refine ak th J ?_)|(refine ao mix J J ?_;refine ay th J ?_)|refine SOps.nil ?_|refine DOps.nil ?_|refine EOps.nil ?_ rfl rfl|((first|refine aq J J ?_ ?_|refine av J J J ?_ ?_|refine aU J ?_ ?_)<;>intro hb<;>(try simp only[aF]at hb)<;>first|(exfalso;omega)|refine aj th J ?_|refine ak th J ?_|skip)|refine aT th Tryz.func92 (.inr ⟨_,rfl⟩) J J J ?_ rfl|(refine aS dB [3,4] J J J J J J J J J J ?_;refine aj th J ?_))
 all_goals exact .refl _
set_option maxHeartbeats 8000000 in
theorem KI(x:List (Nat×Loc))(P8:∀q∈x,q.2.turns.length≤1000):dy Tryz.prog 47 [] [C1 (il x)] (qD (fX 0 x)) []:=by
 obtain⟨F,hF⟩:∃F,F=fX 0 x:=⟨_,rfl⟩
 rw[←hF]
 refine bd (c:=_) Tryz.func47 rfl rfl rfl (by decide) fun w M0 H Z=>?_
 refine gl 0 J fun mZ=>?_
 simp only[aw]at mZ
 repeat'(first|refine bH J ?_|(refine al ?_;refine aj th J ?_)|(refine au mix J J ?_;refine ak th J ?_)|(refine ao mix J J ?_;refine ay th J ?_)|refine SOps.nil ?_|refine DOps.nil ?_|refine EOps.nil ?_ rfl rfl|((first|refine aq J J ?_ ?_|refine av J J J ?_ ?_|refine aU J ?_ ?_)<;>intro hb<;>(try simp only[aF]at hb)<;>first|(exfalso;omega)|refine aj th J ?_|refine ak th J ?_|skip))
 refine qx (fun(k c:Nat)=>k≤x.length∧F=fX c (x.drop k)∧c≤400)
  (fun k c=>[(2,.v (.one (.ptr 2 0))),(3,.v (C1 (.int .i64 (c:Int)))),(6,.v (C1 (il x))),(7,.v (C1 (.int .i64 (x.length:Int)))),(8,.v (C1 (.int .i64 (k:Int))))])
  (fun _ _=>[(2,pV)]) (fun k _=>x.length - k) 0 0 ⟨aM _,hF,by omega⟩
  (fun a w h=>h.sub (by exact⟨⟨_,rfl,.refl _⟩,⟨_,rfl,aC J⟩,⟨_,rfl,.refl _⟩,⟨_,rfl,aC (by simp)⟩,⟨_,rfl,aC J⟩,trivial⟩) (by exact⟨⟨_,rfl,.refl _⟩,trivial⟩) J J J) (fun k c hk ih=>?_)
 obtain⟨hk,eu,hc⟩:=hk
 by_cases bo:k < x.length
 ·have hx:(x.map oY)[k]? =some (oY x[k]):=by simp[bo]
  have hl4:=P8 _ (az bo)
  rw[gb bo,fX]at eu
  have gf:=fun(h0:400 < c+x[k].2.turns.length)=>(show F=(904,(x[k].1:Int),-1) by rw[eu,if_pos h0])
  have cS:=fun(h0:¬400 < c+x[k].2.turns.length)=>ih (k+1) (c+x[k].2.turns.length) ⟨bo,by rw[eu,if_neg h0],by omega⟩ (by omega)
  clear ih eu
  generalize x[k]=q at *
  have hI:((q.2.turns.map fe.cs).length:Int)=(q.2.turns.length:Int):=by simp
  repeat'(first|refine bH J ?_|(refine al ?_;refine aj th J ?_)|(refine au mix J J ?_;refine ak th J ?_)|(refine ao mix J J ?_;refine ay th J ?_)|refine SOps.nil ?_|refine DOps.nil ?_|refine EOps.nil ?_ rfl rfl|((first|refine aq J J ?_ ?_|refine av J J J ?_ ?_|refine aU J ?_ ?_)<;>intro hb<;>(try simp only[aF]at hb)<;>first|(exfalso;omega)|refine aj th J ?_|refine ak th J ?_|skip)|(refine ch th J J J J J J J J J k _ J hx ?_;refine aj th J ?_)|(refine bO J J J J J J (by first|omega|(simp only[aw];omega)) ?_;refine aj th J ?_)|(refine aS (lu 904 (q.1:Int) (-1)) [] J J J J J J J J J J ?_;refine aj th J ?_))
  all_goals simp only[aw]at *
  ·rw[gf (by omega)]
   refine aT th Tryz.func47 (.inr ⟨_,rfl⟩) J J J ?_ rfl
   exact .refl _
  ·exact bJ (by exact⟨⟨_,rfl,.refl _⟩,⟨_,rfl,aC (by omega)⟩,⟨_,rfl,.refl _⟩,⟨_,rfl,.refl _⟩,⟨_,rfl,aC (by omega)⟩,trivial⟩) (by exact⟨⟨_,rfl,.refl _⟩,trivial⟩) J J J (cS (by omega))
 ·clear ih
  rw[vm (by omega),fX]at eu
  rw[eu]
  repeat'(first|refine bH J ?_|(refine al ?_;refine aj th J ?_)|(refine au mix J J ?_;refine ak th J ?_)|(refine ao mix J J ?_;refine ay th J ?_)|refine SOps.nil ?_|refine DOps.nil ?_|refine EOps.nil ?_ rfl rfl|((first|refine aq J J ?_ ?_|refine av J J J ?_ ?_|refine aU J ?_ ?_)<;>intro hb<;>(try simp only[aF]at hb)<;>first|(exfalso;omega)|refine aj th J ?_|refine ak th J ?_|skip)|refine aT th Tryz.func47 (.inr ⟨_,rfl⟩) J J J ?_ rfl)
  all_goals exact .refl _
end Go.Sy
