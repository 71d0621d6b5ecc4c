/- Contracts: a valid book. -/
import Derived.Test.YtdjocfajcbhmgaaGreatDoorBl1
import Derived.Test.YtdjocfajcbhmgaaGreatDoorSy3
set_option linter.unusedSimpArgs false
set_option linter.unusedVariables false
set_option linter.unusedSectionVars false
namespace Go.Sy
open Go.Proofs
set_option maxRecDepth 100000
attribute [local irreducible] SOps Goes DOps
def sc(k at_ n:Int):Bool:=
 if k=5 then decide (at_≥0)&&decide (at_ < n)else decide (k≥0)&&decide (k < 5)&&decide (at_=0)
theorem Gs(k at_ n:Int):dy Tryz.prog 94 [] [Ag [.int .i64 k,.int .i64 at_],C1 (.int .i64 n)] (Rv (.bool (sc k at_ n))) []:=by
 refine bd (c:=_) Tryz.func94 rfl rfl rfl (by decide) fun w M0 H Z=>?_
 repeat'(first|refine bH J ?_|(refine al ?_;refine aj th J ?_)|(refine au mix J J ?_;refine ak th J ?_)|(refine ao mix J J ?_;refine ay th J ?_)|refine SOps.nil ?_|refine DOps.nil ?_|refine EOps.nil ?_ rfl rfl|((first|refine aq J J ?_ ?_|refine av J J J ?_ ?_|refine aU J ?_ ?_)<;>intro hb<;>(try simp only[aF]at hb)<;>first|(exfalso;omega)|refine aj th J ?_|refine ak th J ?_|skip)|refine fk th Tryz.func94 (.inr ⟨_,rfl⟩) J J J ⟨?_,rfl⟩)
 all_goals simp[dI,sc, *]
def tZ(n:Int)(l:List Edge)(i:Nat):Bool:=
 match l[i]? with
 |none=>true
 |some e=>bZ e.label&&((match i with|0=>true|j+1=>(match l[j]? with|some p=>gL p.label e.label|none=>true))&&(decide (0≤e.next)&&(decide (e.next < n)&&sc e.kind e.at_ n)))
def u6(n:Int)(l:List Edge):Bool:=(List.range l.length).all (tZ n l)
def j7(n:Int)(x:Nd):Bool:=
 if x.kind=0 then decide (x.peer=⟨#[]⟩)&&decide (x.aP.length=0)
 else(decide (x.kind=1)||decide (x.kind=2))&&(bZ x.peer&&(decide (1≤x.aP.length)&&(decide (x.aP.length≤6)&&u6 n x.aP)))
theorem rC{n:Int}{l:List Edge}(h:0 < l.length):
 tZ n l 0=(bZ l[0].label&&(decide (0≤l[0].next)&&(decide (l[0].next < n)&&sc l[0].kind l[0].at_ n))):=by simp[tZ,h]
theorem rD{n:Int}{l:List Edge}{j:Nat}(h:j+1 < l.length):
 tZ n l (j+1)=(bZ l[j+1].label&&(gL l[j].label l[j+1].label&&(decide (0≤l[j+1].next)&&(decide (l[j+1].next < n)&&sc l[j+1].kind l[j+1].at_ n)))):=by
 simp[tZ,h,show j < l.length by omega]
theorem sD{n:Int}{l:List Edge}{k:Nat}(hk:k < l.length)(h:tZ n l k=false):u6 n l=false:=
 dH.2 ⟨k,cc.2 hk,by simp[h]⟩
set_option maxHeartbeats 4000000 in
theorem Np(x:Nd)(n:Int):dy Tryz.prog 51 [] [Ag x.cs,C1 (.int .i64 n)] (Rv (.bool (j7 n x))) []:=by
 obtain⟨kind,peer,aP⟩:=x
 refine bd (c:=_) Tryz.func51 rfl rfl rfl (by decide) fun w M0 H Z=>?_
 repeat'(first|refine bH J ?_|(refine al ?_;refine aj th J ?_)|(refine au mix J J ?_;refine ak th J ?_)|(refine ao mix J J ?_;refine ay th J ?_)|refine SOps.nil ?_|refine DOps.nil ?_|refine EOps.nil ?_ rfl rfl|((first|refine aq J J ?_ ?_|refine av J J J ?_ ?_|refine aU J ?_ ?_)<;>intro hb<;>(try simp only[aF]at hb)<;>first|(exfalso;omega)|refine aj th J ?_|refine ak th J ?_|skip)|refine fk th Tryz.func51 (.inr ⟨_,rfl⟩) J J J ⟨?_,rfl⟩|(refine aS (nB _) [] J J J J J J J J J J ?_;refine aj th J ?_))
 all_goals try simp only[aw]at *
 all_goals try(simp[dI,j7, *];done)
 all_goals try(simp[dI,j7, *];omega)
 all_goals
  have H7:j7 n ⟨kind,peer,aP⟩=u6 n aP:=by
   have h1:1≤aP.length:=by omega
   have h2:aP.length≤6:=by omega
   simp[j7, *]
  refine bE (fun k:Nat=>k≤aP.length∧(List.range k).all (tZ n aP)=true)
   (fun k=>[(1,.v (C1 (.int .i64 n))),(2,.v (.one (.ptr 2 0))),(46,.v (C1 (qK aP))),(47,.v (C1 (.int .i64 (aP.length:Int)))),(48,.v (C1 (.int .i64 (k:Int))))])
   (fun _=>[(2,.box [.c (.int .i64 kind),.c (.str peer),.c (qK aP)])]) (fun k=>aP.length - k) 0 ⟨aM _,rfl⟩
   (fun a w h=>h.sub (by exact⟨⟨_,rfl,.refl _⟩,⟨_,rfl,.refl _⟩,⟨_,rfl,.refl _⟩,⟨_,rfl,aC (by simp)⟩,⟨_,rfl,aC J⟩,trivial⟩) (by exact⟨⟨_,rfl,.refl _⟩,trivial⟩) J J J) (fun k hk ih=>?_)
  obtain⟨hk,b7⟩:=hk
  by_cases bo:k < aP.length
  ·have hx:(aP.map Edge.cs)[k]? =some (aP[k]).cs:=by simp[bo]
   cases k with
   |zero=>
    repeat'(first|refine bH J ?_|(refine al ?_;refine aj th J ?_)|(refine au mix J J ?_;refine ak th J ?_)|(refine ao mix J J ?_;refine ay th J ?_)|refine SOps.nil ?_|refine DOps.nil ?_|refine EOps.nil ?_ rfl rfl|((first|refine aq J J ?_ ?_|refine av J J J ?_ ?_|refine aU J ?_ ?_)<;>intro hb<;>(try simp only[aF]at hb)<;>first|(exfalso;omega)|refine aj th J ?_|refine ak th J ?_|skip)|refine fk th Tryz.func51 (.inr ⟨_,rfl⟩) J J J ⟨?_,rfl⟩|((first|refine ch th J J J J J J J J J 0 (aP[0]).cs rfl hx ?_|refine bO J J J J J J (by omega) ?_);refine aj th J ?_)|((first|refine dq (nB _) [] J J J J J J J J J J J ?_|refine dq (Gs _ _ _) [] J J J J J J J J J J J ?_);refine ak th J ?_))
    all_goals first
     |(have gf:tZ n aP 0=false:=by
        clear ih
        rw[rC bo]
        first|(simp[*];done)|(simp[*];intros;omega)|(simp[*];intros;exfalso;omega)
       simp[dI,H7,sD bo gf];done)
     |(refine bJ (by exact⟨⟨_,rfl,.refl _⟩,⟨_,rfl,.refl _⟩,⟨_,rfl,.refl _⟩,⟨_,rfl,aC J⟩,⟨_,rfl,aC (by omega)⟩,trivial⟩) (by exact⟨⟨_,rfl,.refl _⟩,trivial⟩) J J J (ih (0+1) ⟨bo,?_⟩ (by omega))
       rw[kR,fl,b7]
       clear ih
       simp only[sH,vn,bT,gp]
       rw[rC bo]
       first|(simp[*];done)|(simp[*];omega))
   |succ j=>
    have HU:(aP.map Edge.cs)[j]? =some (aP[j]).cs:=by simp[show j < aP.length by omega]
    repeat'(first|refine bH J ?_|(refine al ?_;refine aj th J ?_)|(refine au mix J J ?_;refine ak th J ?_)|(refine ao mix J J ?_;refine ay th J ?_)|refine SOps.nil ?_|refine DOps.nil ?_|refine EOps.nil ?_ rfl rfl|((first|refine aq J J ?_ ?_|refine av J J J ?_ ?_|refine aU J ?_ ?_)<;>intro hb<;>(try simp only[aF]at hb)<;>first|(exfalso;omega)|refine aj th J ?_|refine ak th J ?_|skip)|refine fk th Tryz.func51 (.inr ⟨_,rfl⟩) J J J ⟨?_,rfl⟩|((first|refine ch th J J J J J J J J J (j+1) (aP[j+1]).cs rfl hx ?_|refine bO J J J J J J (by omega) ?_);refine aj th J ?_)|((first|refine dq (nB _) [] J J J J J J J J J J J ?_|refine dq (Gs _ _ _) [] J J J J J J J J J J J ?_|refine CN J J J J J J (by omega) ?_|refine fT th J J J J J J J J J j (aP[j]).cs (by omega) HU ?_);refine ak th J ?_))
    all_goals first
     |(have gf:tZ n aP (j+1)=false:=by
        clear ih
        rw[rD bo]
        first|(simp[*];done)|(simp[*];intros;omega)|(simp[*];intros;exfalso;omega)
       simp[dI,H7,sD bo gf];done)
     |(refine bJ (by exact⟨⟨_,rfl,.refl _⟩,⟨_,rfl,.refl _⟩,⟨_,rfl,.refl _⟩,⟨_,rfl,aC J⟩,⟨_,rfl,aC (by omega)⟩,trivial⟩) (by exact⟨⟨_,rfl,.refl _⟩,trivial⟩) J J J (ih ((j+1)+1) ⟨bo,?_⟩ (by omega))
       rw[kR,fl,b7]
       clear ih
       simp only[sH,vn,bT,gp]
       rw[rD bo]
       first|(simp[*];done)|(simp[*];omega))
  ·have gn:k=aP.length:=by omega
   subst gn
   repeat'(first|refine bH J ?_|(refine al ?_;refine aj th J ?_)|(refine au mix J J ?_;refine ak th J ?_)|(refine ao mix J J ?_;refine ay th J ?_)|refine SOps.nil ?_|refine DOps.nil ?_|refine EOps.nil ?_ rfl rfl|((first|refine aq J J ?_ ?_|refine av J J J ?_ ?_|refine aU J ?_ ?_)<;>intro hb<;>(try simp only[aF]at hb)<;>first|(exfalso;omega)|refine aj th J ?_|refine ak th J ?_|skip)|refine fk th Tryz.func51 (.inr ⟨_,rfl⟩) J J J ⟨?_,rfl⟩)
   all_goals simp[dI,H7,u6,b7]
def lx(b:Bk)(i:Nat):Bool:=
 match b.roots[i]? with
 |none=>true
 |some r=>decide (0≤r)&&(decide (r < (b.nodes.length:Int))&&(match i with|0=>true|j+1=>(match b.names[j]?,b.names[j+1]? with|some p,some q=>gL p q|_,_=>true)))
def fH(b:Bk):Bool:=
 decide (b.nodes.length≤400)&&(decide (b.names.length=b.roots.length)&&((List.range b.roots.length).all (lx b)&&b.nodes.all (j7 b.nodes.length)))
theorem nt{b:Bk}(h:0 < b.roots.length):lx b 0=(decide (0≤b.roots[0])&&decide (b.roots[0] < (b.nodes.length:Int))):=by simp[lx,h]
theorem lg{b:Bk}{j:Nat}(h:j+1 < b.roots.length)(hn:j+1 < b.names.length):
 lx b (j+1)=(decide (0≤b.roots[j+1])&&(decide (b.roots[j+1] < (b.nodes.length:Int))&&gL b.names[j] b.names[j+1])):=by
 simp[lx,h,hn,show j < b.names.length by omega]
theorem uW{b:Bk}{k:Nat}(hk:k < b.roots.length)(h:lx b k=false):fH b=false:=by
 have:(List.range b.roots.length).all (lx b)=false:=dH.2 ⟨k,cc.2 hk,by simp[h]⟩
 simp[fH,this]
theorem CU{b:Bk}{k:Nat}(hk:k < b.nodes.length)(h:j7 b.nodes.length b.nodes[k]=false):fH b=false:=by
 have:b.nodes.all (j7 b.nodes.length)=false:=dH.2 ⟨b.nodes[k],az hk,by simp[h]⟩
 simp[fH,this]
set_option maxHeartbeats 4000000 in
theorem xt(b:Bk):dy Tryz.prog 15 [] [Ag b.cs] (Rv (.bool (fH b))) []:=by
 obtain⟨nodes,names,roots⟩:=b
 refine bd (c:=_) Tryz.func15 rfl rfl rfl (by decide) fun w M0 H Z=>?_
 repeat'(first|refine bH J ?_|(refine al ?_;refine aj th J ?_)|(refine au mix J J ?_;refine ak th J ?_)|(refine ao mix J J ?_;refine ay th J ?_)|refine SOps.nil ?_|refine DOps.nil ?_|refine EOps.nil ?_ rfl rfl|((first|refine aq J J ?_ ?_|refine av J J J ?_ ?_|refine aU J ?_ ?_)<;>intro hb<;>(try simp only[aF]at hb)<;>first|(exfalso;omega)|refine aj th J ?_|refine ak th J ?_|skip)|refine fk th Tryz.func15 (.inr ⟨_,rfl⟩) J J J ⟨?_,rfl⟩)
 all_goals try simp only[aw]at *
 ·have:¬nodes.length≤400:=by omega
  simp[dI,fH,this]
 ·simp[dI,fH, *];omega
 ·have Ud:nodes.length≤400:=by omega
  have Ta:names.length=roots.length:=by omega
  refine gl 21 J fun Jx=>?_
  simp only[aw]at Jx
  refine bE (fun k:Nat=>k≤roots.length∧(List.range k).all (lx ⟨nodes,names,roots⟩)=true)
   (fun k=>[(1,.v (.one (.ptr 1 0))),(21,.v (C1 (cA roots))),(22,.v (C1 (.int .i64 (roots.length:Int)))),(23,.v (C1 (.int .i64 (k:Int))))])
   (fun _=>[(1,.box [.c (jV nodes),.c (bh names),.c (cA roots)])]) (fun k=>roots.length - k) 0 ⟨aM _,rfl⟩
   (fun a w h=>h.sub (by exact⟨⟨_,rfl,.refl _⟩,⟨_,rfl,.refl _⟩,⟨_,rfl,aC (by simp)⟩,⟨_,rfl,aC J⟩,trivial⟩) (by exact⟨⟨_,rfl,.refl _⟩,trivial⟩) J J J) (fun k hk ih=>?_)
  obtain⟨hk,b7⟩:=hk
  by_cases bo:k < roots.length
  ·have hx:(roots.map fun r=>[CT.int .i64 r])[k]? =some [.int .i64 roots[k]]:=by simp[bo]
   cases k with
   |zero=>
    repeat'(first|refine bH J ?_|(refine al ?_;refine aj th J ?_)|(refine au mix J J ?_;refine ak th J ?_)|(refine ao mix J J ?_;refine ay th J ?_)|refine SOps.nil ?_|refine DOps.nil ?_|refine EOps.nil ?_ rfl rfl|((first|refine aq J J ?_ ?_|refine av J J J ?_ ?_|refine aU J ?_ ?_)<;>intro hb<;>(try simp only[aF]at hb)<;>first|(exfalso;omega)|refine aj th J ?_|refine ak th J ?_|skip)|refine fk th Tryz.func15 (.inr ⟨_,rfl⟩) J J J ⟨?_,rfl⟩|((first|refine bO J J J J J J (by omega) ?_|refine ch th J J J J J J J J J 0 _ J hx ?_);refine aj th J ?_))
    all_goals try simp only[aw]at *
    all_goals first
     |(have gf:lx ⟨nodes,names,roots⟩ 0=false:=by
        clear ih
        rw[nt bo]
        first|(simp[*];done)|(simp;omega)
       simp[dI,uW bo gf];done)
     |(refine bJ (by exact⟨⟨_,rfl,.refl _⟩,⟨_,rfl,.refl _⟩,⟨_,rfl,.refl _⟩,⟨_,rfl,aC (by omega)⟩,trivial⟩) (by exact⟨⟨_,rfl,.refl _⟩,trivial⟩) J J J (ih (0+1) ⟨bo,?_⟩ (by omega))
       rw[kR,fl,b7]
       clear ih
       simp only[sH,vn,bT,gp]
       rw[nt bo]
       first|(simp[*];done)|(simp;omega))
   |succ j=>
    have DO:(names.map fun s=>[CT.str s])[j]? =some [.str names[j]]:=by simp[show j < names.length by omega]
    have KQ:(names.map fun s=>[CT.str s])[j+1]? =some [.str names[j+1]]:=by simp[show j+1 < names.length by omega]
    repeat'(first|refine bH J ?_|(refine al ?_;refine aj th J ?_)|(refine au mix J J ?_;refine ak th J ?_)|(refine ao mix J J ?_;refine ay th J ?_)|refine SOps.nil ?_|refine DOps.nil ?_|refine EOps.nil ?_ rfl rfl|((first|refine aq J J ?_ ?_|refine av J J J ?_ ?_|refine aU J ?_ ?_)<;>intro hb<;>(try simp only[aF]at hb)<;>first|(exfalso;omega)|refine aj th J ?_|refine ak th J ?_|skip)|refine fk th Tryz.func15 (.inr ⟨_,rfl⟩) J J J ⟨?_,rfl⟩|((first|refine bO J J J J J J (by omega) ?_|refine ch th J J J J J J J J J (j+1) _ J hx ?_);refine aj th J ?_)|((first|refine CN J J J J J J (by omega) ?_|refine fT th J J J J J J J J J j _ (by omega) DO ?_|refine fT th J J J J J J J J J (j+1) _ (by omega) KQ ?_);refine ak th J ?_))
    all_goals try simp only[aw]at *
    all_goals first
     |(have gf:lx ⟨nodes,names,roots⟩ (j+1)=false:=by
        clear ih
        rw[lg bo (by simp only;omega)]
        first|(simp[*];done)|(simp[*];omega)
       simp[dI,uW bo gf];done)
     |(refine bJ (by exact⟨⟨_,rfl,.refl _⟩,⟨_,rfl,.refl _⟩,⟨_,rfl,.refl _⟩,⟨_,rfl,aC (by omega)⟩,trivial⟩) (by exact⟨⟨_,rfl,.refl _⟩,trivial⟩) J J J (ih (j+1+1) ⟨bo,?_⟩ (by omega))
       rw[kR,fl,b7]
       clear ih
       simp only[sH,vn,bT,gp]
       rw[lg bo (by simp only;omega)]
       first|(simp[*];done)|(simp[*];omega))
  ·have gn:k=roots.length:=by omega
   subst gn
   have fP:fH ⟨nodes,names,roots⟩=nodes.all (j7 nodes.length):=by simp[fH,Ud,Ta,b7]
   clear ih b7
   repeat'(first|refine bH J ?_|(refine al ?_;refine aj th J ?_)|(refine au mix J J ?_;refine ak th J ?_)|(refine ao mix J J ?_;refine ay th J ?_)|refine SOps.nil ?_|refine DOps.nil ?_|refine EOps.nil ?_ rfl rfl|((first|refine aq J J ?_ ?_|refine av J J J ?_ ?_|refine aU J ?_ ?_)<;>intro hb<;>(try simp only[aF]at hb)<;>first|(exfalso;omega)|refine aj th J ?_|refine ak th J ?_|skip)|refine fk th Tryz.func15 (.inr ⟨_,rfl⟩) J J J ⟨?_,rfl⟩)
   all_goals try simp only[aw]at *
   refine bE (fun k:Nat=>k≤nodes.length∧(nodes.take k).all (j7 nodes.length)=true)
    (fun k=>[(1,.v (.one (.ptr 1 0))),(57,.v (C1 (jV nodes))),(58,.v (C1 (.int .i64 (nodes.length:Int)))),(59,.v (C1 (.int .i64 (k:Int))))])
    (fun _=>[(1,.box [.c (jV nodes),.c (bh names),.c (cA roots)])]) (fun k=>nodes.length - k) 0 ⟨aM _,rfl⟩
    (fun a w h=>h.sub (by exact⟨⟨_,rfl,.refl _⟩,⟨_,rfl,.refl _⟩,⟨_,rfl,aC (by simp)⟩,⟨_,rfl,aC J⟩,trivial⟩) (by exact⟨⟨_,rfl,.refl _⟩,trivial⟩) J J J) (fun k hk ih=>?_)
   obtain⟨hk,b7⟩:=hk
   by_cases bo:k < nodes.length
   ·have hx:(nodes.map Nd.cs)[k]? =some (nodes[k]).cs:=by simp[bo]
    have Q3:(((nodes.map Nd.cs).length:Nat):Int)=(nodes.length:Int):=by simp
    have dB:=Np nodes[k] (nodes.length:Int)
    rw[←Q3]at dB
    repeat'(first|refine bH J ?_|(refine al ?_;refine aj th J ?_)|(refine au mix J J ?_;refine ak th J ?_)|(refine ao mix J J ?_;refine ay th J ?_)|refine SOps.nil ?_|refine DOps.nil ?_|refine EOps.nil ?_ rfl rfl|((first|refine aq J J ?_ ?_|refine av J J J ?_ ?_|refine aU J ?_ ?_)<;>intro hb<;>(try simp only[aF]at hb)<;>first|(exfalso;omega)|refine aj th J ?_|refine ak th J ?_|skip)|refine fk th Tryz.func15 (.inr ⟨_,rfl⟩) J J J ⟨?_,rfl⟩|((first|refine bO J J J J J J (by omega) ?_|refine ch th J J J J J J J J J k _ J hx ?_|refine aS dB [] J J J J J J J J J J ?_);refine aj th J ?_))
    all_goals try simp only[aw]at *
    all_goals first
     |(simp[dI,CU (b:=⟨nodes,names,roots⟩) bo hb];done)
     |(refine bJ (by exact⟨⟨_,rfl,.refl _⟩,⟨_,rfl,.refl _⟩,⟨_,rfl,.refl _⟩,⟨_,rfl,aC (by omega)⟩,trivial⟩) (by exact⟨⟨_,rfl,.refl _⟩,trivial⟩) J J J (ih (k+1) ⟨bo,?_⟩ (by omega))
       rw[aD bo,fl,b7]
       simp[hb])
   ·have gn:k=nodes.length:=by omega
    subst gn
    rw[bC]at b7
    repeat'(first|refine bH J ?_|(refine al ?_;refine aj th J ?_)|(refine au mix J J ?_;refine ak th J ?_)|(refine ao mix J J ?_;refine ay th J ?_)|refine SOps.nil ?_|refine DOps.nil ?_|refine EOps.nil ?_ rfl rfl|((first|refine aq J J ?_ ?_|refine av J J J ?_ ?_|refine aU J ?_ ?_)<;>intro hb<;>(try simp only[aF]at hb)<;>first|(exfalso;omega)|refine aj th J ?_|refine ak th J ?_|skip)|refine fk th Tryz.func15 (.inr ⟨_,rfl⟩) J J J ⟨?_,rfl⟩)
    all_goals simp[dI,fP,b7]
end Go.Sy
