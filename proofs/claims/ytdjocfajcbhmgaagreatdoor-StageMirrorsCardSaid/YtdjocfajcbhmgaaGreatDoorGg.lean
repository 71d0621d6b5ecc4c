/- Contracts of layer 13: stage.Moves. -/
import Derived.Test.YtdjocfajcbhmgaaGreatDoorZ21
import Derived.Test.YtdjocfajcbhmgaaGreatDoorGf
set_option linter.unusedSimpArgs false
set_option linter.unusedVariables false
set_option linter.unusedSectionVars false
namespace Go.Sy
open Go.Proofs
set_option maxRecDepth 100000
attribute [local irreducible] SOps Goes DOps EOps
structure Mv where
 kind:Int
 role:Int
 label:ByteArray
deriving DecidableEq
abbrev Mv.cs(m:Mv):List CT:=[.int .i64 m.kind,.int .i64 m.role,.str m.label]
def cf(s:jd)(q:Nat):List ByteArray:=(s.bY[q]?).getD []
theorem xT(l:List ByteArray)(s:ByteArray):dw l s=-1∨∃t:Nat,t < l.length∧dw l s=(t:Int):=by
 cases h:l.findIdx? fun x=>decide (x=s)with
 |none=>exact .inl (by simp[dw,fb,h])
 |some i=>
  have:=(bB.1 h).1
  exact .inr ⟨i,this,by simp[dw,fb,h]⟩
theorem sj(b:Bk)(roles:List ByteArray)(s:jd)(r:Nat):iz b roles s r=-1∨∃t:Nat,t < roles.length∧t≠r∧iz b roles s r=(t:Int):=by
 unfold iz
 split
 ·exact .inl rfl
 ·rename_i cj
  rcases xT roles (cG b s r).peer with h|⟨t,ht,h⟩
  ·exact .inl h
  ·exact .inr ⟨t,ht,fun e=>cj (by rw[h,e]),h⟩
def ey(b:Bk)(roles:List ByteArray)(s:jd)(r:Nat):List Mv:=
 if iz b roles s r < 0 then[]else
 if(cG b s r).kind=1∧(cf s (r * roles.length+(iz b roles s r).toNat)).length < 64 then(cG b s r).aP.map fun a=>⟨1,r,a.label⟩
 else if(cG b s r).kind=2 then
  match cf s ((iz b roles s r).toNat * roles.length+r)with
  |[]=>[]
  |m::_=>if(cG b s r).aP.any (fun e=>decide (e.label=m))=true then[⟨2,r,m⟩]else[]
 else[]
def di(b:Bk)(roles:List ByteArray)(s:jd)(k:Nat):List Mv:=(List.range k).flatMap (ey b roles s)
def c9(b:Bk)(roles:List ByteArray)(s:jd):List Mv:=if fa b roles s=true then di b roles s roles.length else[]
theorem fM(b:Bk)(roles:List ByteArray)(s:jd)(k:Nat):di b roles s (k+1)=di b roles s k++ey b roles s k:=by
 simp[di,kR,List.flatMap_append]
def oM(b:Bk):Prop:=∀x∈b.nodes,x.aP.length≤1000000
theorem p7{b:Bk}(h:oM b)(s:jd)(r:Nat):(cG b s r).aP.length≤1000000:=by
 unfold cG
 cases hx:b.nodes[vj s r]? with
 |none=>simp
 |some x=>exact h x (an hx)
theorem z8{b:Bk}(h:oM b)(roles:List ByteArray)(s:jd)(r:Nat):(ey b roles s r).length≤1000000:=by
 have:=p7 h s r
 unfold ey
 split
 ·simp
 ·split
  ·simpa using this
  ·split
   ·split
    ·simp
    ·split<;>simp
   ·simp
theorem so{b:Bk}(h:oM b)(roles:List ByteArray)(s:jd)(k:Nat):(di b roles s k).length≤k * 1000000:=by
 induction k with
 |zero=>simp[di]
 |succ k ih=>
  rw[fM,aL]
  have:=z8 h roles s k
  omega
set_option maxHeartbeats 16000000 in
theorem s5(b:Bk)(roles:List ByteArray)(s:jd)(hA:oM b):dy Tryz.prog 35 [] [Ag b.cs,C1 (bh roles),Ag s.cs] (Rv (.slice false 3 ((c9 b roles s).map Mv.cs))) []:=by
 have gw:=mo b roles s
 cases hM:fa b roles s with
 |false=>
  rw[hM]at gw
  rw[show c9 b roles s=[] by simp[c9,hM]]
  refine bd (c:=_) Tryz.func35 rfl rfl rfl (by decide) fun w M0 H Z=>?_
  repeat'(first|refine bH J ?_|(refine al ?_;refine aj th J ?_)|(refine au mix J J ?_;refine ak th J ?_)|(refine ao mix J J ?_;refine ay th J ?_)|refine SOps.nil ?_|refine DOps.nil ?_|refine EOps.nil ?_ rfl rfl|((first|refine aq J J ?_ ?_|refine av J J J ?_ ?_|refine aU J ?_ ?_)<;>intro hb<;>(try simp only[aF]at hb)<;>first|(exfalso;omega)|refine aj th J ?_|refine ak th J ?_|skip)|refine aT th Tryz.func35 (.inr ⟨_,rfl⟩) J J J ?_ rfl|(refine aS gw [] J J J J J J J J J J ?_;refine aj th J ?_))
  all_goals first|exact .v (.one (.c (.nil 3)))|(exfalso;revert hb;decide)
 |true=>
  rw[hM]at gw
  obtain⟨DR,s9,UM,Pp,w7⟩:=ki hM
  rw[show c9 b roles s=di b roles s roles.length by simp[c9,hM]]
  refine bd (c:=_) Tryz.func35 rfl rfl rfl (by decide) fun w M0 H Z=>?_
  repeat'(first|refine bH J ?_|(refine al ?_;refine aj th J ?_)|(refine au mix J J ?_;refine ak th J ?_)|(refine ao mix J J ?_;refine ay th J ?_)|refine SOps.nil ?_|refine DOps.nil ?_|refine EOps.nil ?_ rfl rfl|((first|refine aq J J ?_ ?_|refine av J J J ?_ ?_|refine aU J ?_ ?_)<;>intro hb<;>(try simp only[aF]at hb)<;>first|(exfalso;omega)|refine aj th J ?_|refine ak th J ?_|skip)|(refine aS gw [] J J J J J J J J J J ?_;refine aj th J ?_))
  all_goals try(exfalso;revert hb;decide)
  refine qy 7 120 89 3 J J J ?_
  refine bE (fun k:Nat=>k≤roles.length)
   (fun k=>[(1,.v (C1 (bh roles))),(3,.v (.one (.ptr 3 0))),(5,.v (.one (.ptr 5 0))),(7,.v (.one (.own 120))),(20,.v (C1 (.int .i64 (roles.length:Int)))),(21,.v (C1 (.int .i64 (k:Int))))])
   (fun k=>[(120,.arr false 89 3 ((di b roles s k).map Mv.cs)),(5,.box [.c (cA s.at_),.c (jL s.bY)]),(3,.box [.c (jV b.nodes),.c (bh b.names),.c (cA b.roots)])])
   (fun k=>roles.length - k) 0 (aM _)
   (fun a w h=>h.sub (by exact⟨⟨_,rfl,.refl _⟩,⟨_,rfl,.refl _⟩,⟨_,rfl,.refl _⟩,⟨_,rfl,.refl _⟩,⟨_,rfl,aC (by simp)⟩,⟨_,rfl,aC J⟩,trivial⟩) (by exact⟨⟨_,rfl,.refl _⟩,⟨_,rfl,.refl _⟩,⟨_,rfl,.refl _⟩,trivial⟩) J J J) (fun k hk ih=>?_)
  by_cases bo:k < roles.length
  ·have w7:=w7 k bo
   obtain⟨hx,hy⟩:=w7.idx
   have FU:=Dl b roles s k w7
   have hlen:=so hA roles s k
   have hlen5:k * 1000000≤5 * 1000000:=by omega
   have kI:=p7 hA s k
   rcases sj b roles s k with hp|⟨t,ht,Qg,hp⟩
   ·have hm:di b roles s (k+1)=di b roles s k:=by rw[fM];simp[ey,hp]
    rw[hp]at FU
    repeat'(first|refine bH J ?_|(refine al ?_;refine aj th J ?_)|(refine au mix J J ?_;refine ak th J ?_)|(refine ao mix J J ?_;refine ay th J ?_)|refine SOps.nil ?_|refine DOps.nil ?_|refine EOps.nil ?_ rfl rfl|((first|refine aq J J ?_ ?_|refine av J J J ?_ ?_|refine aU J ?_ ?_)<;>intro hb<;>(try simp only[aF]at hb)<;>first|(exfalso;omega)|refine aj th J ?_|refine ak th J ?_|skip)|((first|refine iC th J J J J J J J J J k _ J hx ?_|refine iC th J J J J J J J J J (vj s k) _ J hy ?_);refine ay th J ?_)|((first|refine aS FU [] J J J J J J J J J J ?_|refine bO J J J J J J (by omega) ?_);refine aj th J ?_))
    all_goals
     have cS:=ih (k+1) bo (by omega)
     rw[hm]at cS
     exact bJ (by exact⟨⟨_,rfl,.refl _⟩,⟨_,rfl,.refl _⟩,⟨_,rfl,.refl _⟩,⟨_,rfl,.refl _⟩,⟨_,rfl,.refl _⟩,⟨_,rfl,aC (by omega)⟩,trivial⟩) (by exact⟨⟨_,rfl,.refl _⟩,⟨_,rfl,.refl _⟩,⟨_,rfl,.refl _⟩,trivial⟩) J J J cS
   ·rw[hp]at FU
    have FT:k * roles.length+t < s.bY.length:=by
     rw[Pp]
     have:=bq roles.length (show k+1≤roles.length from bo)
     rw[dt]at this;omega
    have Qt:t * roles.length+k < s.bY.length:=by
     rw[Pp]
     have:=bq roles.length (show t+1≤roles.length from ht)
     rw[dt]at this;omega
    have DO:(s.bY.map fun m=>[bh m])[k * roles.length+t]? =some [bh (cf s (k * roles.length+t))]:=by simp[cf,FT]
    have KQ:(s.bY.map fun m=>[bh m])[t * roles.length+k]? =some [bh (cf s (t * roles.length+k))]:=by simp[cf,Qt]
    have h0:¬((t:Int) < 0):=by omega
    by_cases hS:(cG b s k).kind=1∧(cf s (k * roles.length+t)).length < 64
    ·obtain⟨Ww,Wv⟩:=hS
     have hm:di b roles s (k+1)=di b roles s k++(cG b s k).aP.map (fun a=>(⟨1,k,a.label⟩:Mv)):=by rw[fM];congr 1;simp[ey,hp,Ww,Wv,h0]
     repeat'(first|refine bH J ?_|(refine al ?_;refine aj th J ?_)|(refine au mix J J ?_;refine ak th J ?_)|(refine ao mix J J ?_;refine ay th J ?_)|refine SOps.nil ?_|refine DOps.nil ?_|refine EOps.nil ?_ rfl rfl|((first|refine aq J J ?_ ?_|refine av J J J ?_ ?_|refine aU J ?_ ?_)<;>intro hb<;>(try simp only[aF]at hb)<;>first|(exfalso;omega)|refine aj th J ?_|refine ak th J ?_|skip)|((first|refine iC th J J J J J J J J J k _ J hx ?_|refine iC th J J J J J J J J J (vj s k) _ J hy ?_|refine iC th J J J J J J J J J (t * roles.length+k) _ J KQ ?_|refine iY (ib roles t k s9 (by omega) (by omega)) J J J J J J J ?_);refine ay th J ?_)|((first|refine fT th J J J J J J J J J (k * roles.length+t) _ J DO ?_|refine dq (ib roles k t s9 (by omega) (by omega)) [] J J J J J J J J J J J ?_);refine ak th J ?_)|((first|refine aS FU [] J J J J J J J J J J ?_|refine bO J J J J J J (by omega) ?_);refine aj th J ?_))
     refine bE (fun j:Nat=>j≤(cG b s k).aP.length)
      (fun j=>[(1,.v (C1 (bh roles))),(3,.v (.one (.ptr 3 0))),(5,.v (.one (.ptr 5 0))),(7,.v (.one (.own 120))),(8,.v (C1 (.int .i64 (k:Int)))),(20,.v (C1 (.int .i64 (roles.length:Int)))),(21,.v (C1 (.int .i64 (k:Int)))),
        (58,.v (C1 (qK (cG b s k).aP))),(59,.v (C1 (.int .i64 ((cG b s k).aP.length:Int)))),(60,.v (C1 (.int .i64 (j:Int))))])
      (fun j=>[(120,.arr false 89 3 ((di b roles s k++((cG b s k).aP.take j).map (fun a=>(⟨1,k,a.label⟩:Mv))).map Mv.cs)),(5,.box [.c (cA s.at_),.c (jL s.bY)]),(3,.box [.c (jV b.nodes),.c (bh b.names),.c (cA b.roots)])])
      (fun j=>(cG b s k).aP.length - j) 0 (aM _)
      (fun a w h=>h.sub (by exact⟨⟨_,rfl,.refl _⟩,⟨_,rfl,.refl _⟩,⟨_,rfl,.refl _⟩,⟨_,rfl,.refl _⟩,⟨_,rfl,.refl _⟩,⟨_,rfl,.refl _⟩,⟨_,rfl,.refl _⟩,⟨_,rfl,.refl _⟩,⟨_,rfl,aC (by simp)⟩,⟨_,rfl,aC J⟩,trivial⟩)
        (by exact⟨⟨_,rfl,uw (by simp)⟩,⟨_,rfl,.refl _⟩,⟨_,rfl,.refl _⟩,trivial⟩) J J J) (fun j hj oZ=>?_)
     by_cases eC:j < (cG b s k).aP.length
     ·have NN:((cG b s k).aP.map Edge.cs)[j]? =some ((cG b s k).aP[j]).cs:=by simp[eC]
      have Tg:(di b roles s k++((cG b s k).aP.take j).map (fun a=>(⟨1,k,a.label⟩:Mv))).map Mv.cs++[[.int .i64 1,.int .i64 k,.str ((cG b s k).aP[j]).label]]=(di b roles s k++((cG b s k).aP.take (j+1)).map (fun a=>(⟨1,k,a.label⟩:Mv))).map Mv.cs:=by
       rw[aD eC]
       simp only[a6,br,bF,gh]
      repeat'(first|refine bH J ?_|(refine al ?_;refine aj th J ?_)|(refine au mix J J ?_;refine ak th J ?_)|(refine ao mix J J ?_;refine ay th J ?_)|refine SOps.nil ?_|refine DOps.nil ?_|refine EOps.nil ?_ rfl rfl|((first|refine aq J J ?_ ?_|refine av J J J ?_ ?_|refine aU J ?_ ?_)<;>intro hb<;>(try simp only[aF]at hb)<;>first|(exfalso;omega)|refine aj th J ?_|refine ak th J ?_|skip)|(refine ch th J J J J J J J J J j _ J NN ?_;refine aj th J ?_)|(refine er th J J J J J J J J J J J J J J J (by constructor<;>simp<;>omega) ?_;refine aj th J ?_)|(refine bO J J J J J J (by omega) ?_;refine aj th J ?_))
      all_goals
       have l3:=oZ (j+1) eC (by omega)
       exact bJ (by exact⟨⟨_,rfl,.refl _⟩,⟨_,rfl,.refl _⟩,⟨_,rfl,.refl _⟩,⟨_,rfl,.refl _⟩,⟨_,rfl,.refl _⟩,⟨_,rfl,.refl _⟩,⟨_,rfl,.refl _⟩,⟨_,rfl,.refl _⟩,⟨_,rfl,.refl _⟩,⟨_,rfl,aC (by omega)⟩,trivial⟩) (by exact⟨⟨_,rfl,uw Tg⟩,⟨_,rfl,.refl _⟩,⟨_,rfl,.refl _⟩,trivial⟩) J J J l3
     ·have AH:j=(cG b s k).aP.length:=by omega
      subst AH
      have cS:=ih (k+1) bo (by omega)
      rw[bC,←hm]
      repeat'(first|refine bH J ?_|(refine al ?_;refine aj th J ?_)|(refine au mix J J ?_;refine ak th J ?_)|(refine ao mix J J ?_;refine ay th J ?_)|refine SOps.nil ?_|refine DOps.nil ?_|refine EOps.nil ?_ rfl rfl|((first|refine aq J J ?_ ?_|refine av J J J ?_ ?_|refine aU J ?_ ?_)<;>intro hb<;>(try simp only[aF]at hb)<;>first|(exfalso;omega)|refine aj th J ?_|refine ak th J ?_|skip)|(refine bO J J J J J J (by omega) ?_;refine aj th J ?_))
      all_goals exact bJ (by exact⟨⟨_,rfl,.refl _⟩,⟨_,rfl,.refl _⟩,⟨_,rfl,.refl _⟩,⟨_,rfl,.refl _⟩,⟨_,rfl,.refl _⟩,⟨_,rfl,aC (by omega)⟩,trivial⟩) (by exact⟨⟨_,rfl,.refl _⟩,⟨_,rfl,.refl _⟩,⟨_,rfl,.refl _⟩,trivial⟩) J J J cS
    ·have Wu:(cG b s k).kind=1→¬((cf s (k * roles.length+t)).length:Int) < 64:=fun h1 h2=>hS ⟨h1,by omega⟩
     by_cases hR:(cG b s k).kind=2
     ·cases Ib:cf s (t * roles.length+k)with
      |nil=>
       rw[Ib]at KQ
       have hm:di b roles s (k+1)=di b roles s k:=by rw[fM];simp[ey,hp,hR,h0,Ib]
       have cS:=ih (k+1) bo (by omega)
       rw[hm]at cS
       repeat'(first|refine bH J ?_|(refine al ?_;refine aj th J ?_)|(refine au mix J J ?_;refine ak th J ?_)|(refine ao mix J J ?_;refine ay th J ?_)|refine SOps.nil ?_|refine DOps.nil ?_|refine EOps.nil ?_ rfl rfl|((first|refine aq J J ?_ ?_|refine av J J J ?_ ?_|refine aU J ?_ ?_)<;>intro hb<;>(try simp only[aF]at hb)<;>first|(exfalso;omega)|refine aj th J ?_|refine ak th J ?_|skip)|((first|refine iC th J J J J J J J J J k _ J hx ?_|refine iC th J J J J J J J J J (vj s k) _ J hy ?_|refine iC th J J J J J J J J J (t * roles.length+k) _ J KQ ?_|refine iY (ib roles t k s9 (by omega) (by omega)) J J J J J J J ?_);refine ay th J ?_)|((first|refine fT th J J J J J J J J J (k * roles.length+t) _ J DO ?_|refine dq (ib roles k t s9 (by omega) (by omega)) [] J J J J J J J J J J J ?_);refine ak th J ?_)|((first|refine aS FU [] J J J J J J J J J J ?_|refine bO J J J J J J (by omega) ?_);refine aj th J ?_))
       all_goals first|exact bJ (by exact⟨⟨_,rfl,.refl _⟩,⟨_,rfl,.refl _⟩,⟨_,rfl,.refl _⟩,⟨_,rfl,.refl _⟩,⟨_,rfl,.refl _⟩,⟨_,rfl,aC (by omega)⟩,trivial⟩) (by exact⟨⟨_,rfl,.refl _⟩,⟨_,rfl,.refl _⟩,⟨_,rfl,.refl _⟩,trivial⟩) J J J cS|(exfalso;revert hb;simp;done)
      |cons m rest=>
       rw[Ib]at KQ
       have UE:((m::rest).map fun s=>[CT.str s])[0]? =some [.str m]:=rfl
       cases oU:(cG b s k).aP.any fun e=>decide (e.label=m)with
       |false=>
        have hm:di b roles s (k+1)=di b roles s k:=by
            rw[fM]
            have:ey b roles s k=[]:=by simp only[ey,hp,hR,h0,Ib,cZ,if_false,oU];simp
            rw[this,cV]
        have cS:=ih (k+1) bo (by omega)
        rw[hm]at cS
        repeat'(first|refine bH J ?_|(refine al ?_;refine aj th J ?_)|(refine au mix J J ?_;refine ak th J ?_)|(refine ao mix J J ?_;refine ay th J ?_)|refine SOps.nil ?_|refine DOps.nil ?_|refine EOps.nil ?_ rfl rfl|((first|refine aq J J ?_ ?_|refine av J J J ?_ ?_|refine aU J ?_ ?_)<;>intro hb<;>(try simp only[aF]at hb)<;>first|(exfalso;omega)|refine aj th J ?_|refine ak th J ?_|skip)|((first|refine iC th J J J J J J J J J k _ J hx ?_|refine iC th J J J J J J J J J (vj s k) _ J hy ?_|refine iC th J J J J J J J J J (t * roles.length+k) _ J KQ ?_|refine iY (ib roles t k s9 (by omega) (by omega)) J J J J J J J ?_);refine ay th J ?_)|((first|refine fT th J J J J J J J J J (k * roles.length+t) _ J DO ?_|refine dq (ib roles k t s9 (by omega) (by omega)) [] J J J J J J J J J J J ?_);refine ak th J ?_)|((first|refine aS FU [] J J J J J J J J J J ?_|refine aS (sB (fun e=>decide (e.label=m)) (cG b s k).aP _ _ (Aa m rest)) [13] J J J J J J J J J J ?_|refine ch th J J J J J J J J J 0 _ J UE ?_);refine aj th J ?_)|(refine er th J J J J J J J J J J J J J J J (by constructor<;>simp<;>omega) ?_;refine aj th J ?_)|(refine bO J J J J J J (by omega) ?_;refine aj th J ?_))
        all_goals first|exact bJ (by exact⟨⟨_,rfl,.refl _⟩,⟨_,rfl,.refl _⟩,⟨_,rfl,.refl _⟩,⟨_,rfl,.refl _⟩,⟨_,rfl,.refl _⟩,⟨_,rfl,aC (by omega)⟩,trivial⟩) (by exact⟨⟨_,rfl,.refl _⟩,⟨_,rfl,.refl _⟩,⟨_,rfl,.refl _⟩,trivial⟩) J J J cS|(exfalso;revert hb;simp[oU];done)
       |true=>
        have hm:di b roles s (k+1)=di b roles s k++[⟨2,k,m⟩]:=by
            rw[fM]
            have:ey b roles s k=[⟨2,k,m⟩]:=by simp only[ey,hp,hR,h0,Ib,cZ,if_false,oU];simp
            rw[this]
        have Tg:(di b roles s k).map Mv.cs++[[.int .i64 2,.int .i64 k,.str m]]=(di b roles s (k+1)).map Mv.cs:=by rw[hm];simp
        have cS:=ih (k+1) bo (by omega)
        repeat'(first|refine bH J ?_|(refine al ?_;refine aj th J ?_)|(refine au mix J J ?_;refine ak th J ?_)|(refine ao mix J J ?_;refine ay th J ?_)|refine SOps.nil ?_|refine DOps.nil ?_|refine EOps.nil ?_ rfl rfl|((first|refine aq J J ?_ ?_|refine av J J J ?_ ?_|refine aU J ?_ ?_)<;>intro hb<;>(try simp only[aF]at hb)<;>first|(exfalso;omega)|refine aj th J ?_|refine ak th J ?_|skip)|((first|refine iC th J J J J J J J J J k _ J hx ?_|refine iC th J J J J J J J J J (vj s k) _ J hy ?_|refine iC th J J J J J J J J J (t * roles.length+k) _ J KQ ?_|refine iY (ib roles t k s9 (by omega) (by omega)) J J J J J J J ?_);refine ay th J ?_)|((first|refine fT th J J J J J J J J J (k * roles.length+t) _ J DO ?_|refine dq (ib roles k t s9 (by omega) (by omega)) [] J J J J J J J J J J J ?_);refine ak th J ?_)|((first|refine aS FU [] J J J J J J J J J J ?_|refine aS (sB (fun e=>decide (e.label=m)) (cG b s k).aP _ _ (Aa m rest)) [13] J J J J J J J J J J ?_|refine ch th J J J J J J J J J 0 _ J UE ?_);refine aj th J ?_)|(refine er th J J J J J J J J J J J J J J J (by constructor<;>simp<;>omega) ?_;refine aj th J ?_)|(refine bO J J J J J J (by omega) ?_;refine aj th J ?_))
        all_goals first|exact bJ (by exact⟨⟨_,rfl,.refl _⟩,⟨_,rfl,.refl _⟩,⟨_,rfl,.refl _⟩,⟨_,rfl,.refl _⟩,⟨_,rfl,.refl _⟩,⟨_,rfl,aC (by omega)⟩,trivial⟩) (by exact⟨⟨_,rfl,uw Tg⟩,⟨_,rfl,.refl _⟩,⟨_,rfl,.refl _⟩,trivial⟩) J J J cS|(exfalso;revert hb;simp[oU];done)
     ·have hm:di b roles s (k+1)=di b roles s k:=by
       rw[fM]
       have:ey b roles s k=[]:=by
        simp only[ey,hp,h0,cZ,if_false,hR]
        rw[if_neg hS]
       rw[this,cV]
      have cS:=ih (k+1) bo (by omega)
      rw[hm]at cS
      repeat'(first|refine bH J ?_|(refine al ?_;refine aj th J ?_)|(refine au mix J J ?_;refine ak th J ?_)|(refine ao mix J J ?_;refine ay th J ?_)|refine SOps.nil ?_|refine DOps.nil ?_|refine EOps.nil ?_ rfl rfl|((first|refine aq J J ?_ ?_|refine av J J J ?_ ?_|refine aU J ?_ ?_)<;>intro hb<;>(try simp only[aF]at hb)<;>first|(exfalso;omega)|refine aj th J ?_|refine ak th J ?_|skip)|((first|refine iC th J J J J J J J J J k _ J hx ?_|refine iC th J J J J J J J J J (vj s k) _ J hy ?_|refine iC th J J J J J J J J J (t * roles.length+k) _ J KQ ?_|refine iY (ib roles t k s9 (by omega) (by omega)) J J J J J J J ?_);refine ay th J ?_)|((first|refine fT th J J J J J J J J J (k * roles.length+t) _ J DO ?_|refine dq (ib roles k t s9 (by omega) (by omega)) [] J J J J J J J J J J J ?_);refine ak th J ?_)|((first|refine aS FU [] J J J J J J J J J J ?_|refine bO J J J J J J (by omega) ?_);refine aj th J ?_))
      all_goals first|exact bJ (by exact⟨⟨_,rfl,.refl _⟩,⟨_,rfl,.refl _⟩,⟨_,rfl,.refl _⟩,⟨_,rfl,.refl _⟩,⟨_,rfl,.refl _⟩,⟨_,rfl,aC (by omega)⟩,trivial⟩) (by exact⟨⟨_,rfl,.refl _⟩,⟨_,rfl,.refl _⟩,⟨_,rfl,.refl _⟩,trivial⟩) J J J cS|(exfalso;exact Wu (by assumption) (by assumption))
  ·have gn:k=roles.length:=by omega
   subst gn
   repeat'(first|refine bH J ?_|(refine al ?_;refine aj th J ?_)|(refine au mix J J ?_;refine ak th J ?_)|(refine ao mix J J ?_;refine ay th J ?_)|refine SOps.nil ?_|refine DOps.nil ?_|refine EOps.nil ?_ rfl rfl|((first|refine aq J J ?_ ?_|refine av J J J ?_ ?_|refine aU J ?_ ?_)<;>intro hb<;>(try simp only[aF]at hb)<;>first|(exfalso;omega)|refine aj th J ?_|refine ak th J ?_|skip))
   refine dZ 120 J J ?_
   exact aT th Tryz.func35 (.inr ⟨_,rfl⟩) J J J (.refl _) J
end Go.Sy
