/- Contracts: a valid book. -/
import Derived.Test.YtdjocfajcbhmgaaGreatDoorAu
import Derived.Test.YtdjocfajcbhmgaaGreatDoorZ1
import Derived.Test.YtdjocfajcbhmgaaGreatDoorSy3
set_option maxHeartbeats 64000000
set_option linter.unusedSimpArgs false
set_option linter.unusedVariables false
set_option linter.unusedSectionVars false
namespace Go.Sy
open Go.Proofs
set_option maxRecDepth 100000
attribute [local irreducible] SOps Goes DOps
def ml(b:Bk)(i:Nat):Bool:=
 match b.roots[i]? with
 |none=>true
 |some r=>decide (0≤r)&&(decide (r < (b.nodes.length:Int))&&(match i with|0=>true|j+1=>(match b.names[j]?,b.names[j+1]? with|some p,some q=>gQ p q|_,_=>true)))
def eJ(b:Bk):Bool:=
 decide (b.nodes.length≤400)&&(decide (b.names.length=b.roots.length)&&((List.range b.roots.length).all (ml b)&&b.nodes.all (ig b.nodes.length)))
theorem oG{b:Bk}(h:0 < b.roots.length):ml b 0=(decide (0≤b.roots[0])&&decide (b.roots[0] < (b.nodes.length:Int))):=by simp[ml,h]
theorem lW{b:Bk}{j:Nat}(h:j+1 < b.roots.length)(hn:j+1 < b.names.length):
 ml b (j+1)=(decide (0≤b.roots[j+1])&&(decide (b.roots[j+1] < (b.nodes.length:Int))&&gQ b.names[j] b.names[j+1])):=by
 simp[ml,h,hn,show j < b.names.length by omega]
theorem xD{b:Bk}{k:Nat}(hk:k < b.roots.length)(h:ml b k=false):eJ b=false:=by
 have:(List.range b.roots.length).all (ml b)=false:=dC.2 ⟨k,ek.2 hk,by simp[h]⟩
 simp[eJ,this]
theorem FU{b:Bk}{k:Nat}(hk:k < b.nodes.length)(h:ig b.nodes.length b.nodes[k]=false):eJ b=false:=by
 have:b.nodes.all (ig b.nodes.length)=false:=dC.2 ⟨b.nodes[k],an hk,by simp[h]⟩
 simp[eJ,this]
theorem tI(b:Bk):er Tryz.prog 15 [] [Ag b.cs] (Rv (.bool (eJ b))) []:=by
 obtain⟨nodes,names,roots⟩:=b
 refine bn (c:=_) Tryz.func15 rfl rfl rfl (by decide) fun w M0 H Z=>?_
 repeat'(first|refine aA ?_|(refine aB ?_ ?_<;>first|exact aD|(refine aE ?_;intro hb))|refine dw th Tryz.func15 (.inr ⟨_,rfl⟩) J J J ⟨?_,rfl⟩)
 all_goals try simp only[ak]at *
 ·have:¬nodes.length≤400:=by omega
  simp[dd,eJ,this]
 ·simp[dd,eJ, *];omega
 ·have XH:nodes.length≤400:=by omega
  have od:names.length=roots.length:=by omega
  refine il 21 J fun BF=>?_
  simp only[ak]at BF
  refine bE (fun k:Nat=>k≤roots.length∧(List.range k).all (ml ⟨nodes,names,roots⟩)=true)
   (fun k=>[(1,.v (.one (.ptr 1 0))),(21,.v (C1 (ch roots))),(22,.v (C1 (.int .i64 (roots.length:Int)))),(23,.v (C1 (.int .i64 (k:Int))))])
   (fun _=>[(1,.box [.c (mo nodes),.c (bL names),.c (ch roots)])]) (fun k=>roots.length - k) 0 ⟨aF _,rfl⟩
   aH (fun k hk ih=>?_)
  obtain⟨hk,b6⟩:=hk
  by_cases bj:k < roots.length
  ·have hx:(roots.map fun r=>[CT.int .i64 r])[k]? =some [.int .i64 roots[k]]:=by simp[bj]
   cases k with
   |zero=>
    repeat'(first|refine aA ?_|(refine aB ?_ ?_<;>first|exact aD|(refine aE ?_;intro hb))|refine dw th Tryz.func15 (.inr ⟨_,rfl⟩) J J J ⟨?_,rfl⟩|((first|refine bH J J J J J J (by omega) ?_|refine bO th J J J J J J J J J 0 _ J hx ?_);refine ao th J ?_))
    all_goals try simp only[ak]at *
    all_goals first
     |(have fQ:ml ⟨nodes,names,roots⟩ 0=false:=by
        clear ih
        rw[oG bj]
        first|(simp[*];done)|(simp;omega)
       simp[dd,xD bj fQ];done)
     |(refine aS (ih (0+1) ⟨bj,?_⟩ (by omega))
       rw[qa,dR,b6]
       clear ih
       simp only[uK,ya,bZ,hC]
       rw[oG bj]
       first|(simp[*];done)|(simp;omega))
   |succ j=>
    have Fc:(names.map fun s=>[CT.str s])[j]? =some [.str names[j]]:=by simp[show j < names.length by omega]
    have Y0:(names.map fun s=>[CT.str s])[j+1]? =some [.str names[j+1]]:=by simp[show j+1 < names.length by omega]
    repeat'(first|refine aA ?_|(refine aB ?_ ?_<;>first|exact aD|(refine aE ?_;intro hb))|refine dw th Tryz.func15 (.inr ⟨_,rfl⟩) J J J ⟨?_,rfl⟩|((first|refine bH J J J J J J (by omega) ?_|refine bO th J J J J J J J J J (j+1) _ J hx ?_);refine ao th J ?_)|((first|refine FN J J J J J J (by omega) ?_|refine qx th J J J J J J J J J j _ (by omega) Fc ?_|refine qx th J J J J J J J J J (j+1) _ (by omega) Y0 ?_);refine dP th J ?_))
    all_goals try simp only[ak]at *
    all_goals first
     |(have fQ:ml ⟨nodes,names,roots⟩ (j+1)=false:=by
        clear ih
        rw[lW bj (by simp only;omega)]
        first|(simp[*];done)|(simp[*];omega)
       simp[dd,xD bj fQ];done)
     |(refine aS (ih (j+1+1) ⟨bj,?_⟩ (by omega))
       rw[qa,dR,b6]
       clear ih
       simp only[uK,ya,bZ,hC]
       rw[lW bj (by simp only;omega)]
       first|(simp[*];done)|(simp[*];omega))
  ·have gv:k=roots.length:=by omega
   subst gv
   have gf:eJ ⟨nodes,names,roots⟩=nodes.all (ig nodes.length):=by simp[eJ,XH,od,b6]
   clear ih b6
   repeat'(first|refine aA ?_|(refine aB ?_ ?_<;>first|exact aD|(refine aE ?_;intro hb))|refine dw th Tryz.func15 (.inr ⟨_,rfl⟩) J J J ⟨?_,rfl⟩)
   all_goals try simp only[ak]at *
   refine bE (fun k:Nat=>k≤nodes.length∧(nodes.take k).all (ig nodes.length)=true)
    (fun k=>[(1,.v (.one (.ptr 1 0))),(57,.v (C1 (mo nodes))),(58,.v (C1 (.int .i64 (nodes.length:Int)))),(59,.v (C1 (.int .i64 (k:Int))))])
    (fun _=>[(1,.box [.c (mo nodes),.c (bL names),.c (ch roots)])]) (fun k=>nodes.length - k) 0 ⟨aF _,rfl⟩
    aH (fun k hk ih=>?_)
   obtain⟨hk,b6⟩:=hk
   by_cases bj:k < nodes.length
   ·have hx:(nodes.map Nd.cs)[k]? =some (nodes[k]).cs:=by simp[bj]
    have UQ:(((nodes.map Nd.cs).length:Nat):Int)=(nodes.length:Int):=by simp
    have cY:=Rn nodes[k] (nodes.length:Int)
    rw[←UQ]at cY
    repeat'(first|refine aA ?_|(refine aB ?_ ?_<;>first|exact aD|(refine aE ?_;intro hb))|refine dw th Tryz.func15 (.inr ⟨_,rfl⟩) J J J ⟨?_,rfl⟩|((first|refine bH J J J J J J (by omega) ?_|refine bO th J J J J J J J J J k _ J hx ?_|refine aR cY [] J J J J J J J J J J ?_);refine ao th J ?_))
    all_goals try simp only[ak]at *
    all_goals first
     |(simp[dd,FU (b:=⟨nodes,names,roots⟩) bj hb];done)
     |(refine aS (ih (k+1) ⟨bj,?_⟩ (by omega))
       rw[al bj,dR,b6]
       simp[hb])
   ·have gv:k=nodes.length:=by omega
    subst gv
    rw[bq]at b6
    repeat'(first|refine aA ?_|(refine aB ?_ ?_<;>first|exact aD|(refine aE ?_;intro hb))|refine dw th Tryz.func15 (.inr ⟨_,rfl⟩) J J J ⟨?_,rfl⟩)
    all_goals simp[dd,gf,b6]
end Go.Sy
