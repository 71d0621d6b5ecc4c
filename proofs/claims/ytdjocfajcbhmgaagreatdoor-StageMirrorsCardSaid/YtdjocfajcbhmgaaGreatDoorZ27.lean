/- Contracts: slices.Clone as a row of one's own; stage.copied. -/
import Derived.Test.YtdjocfajcbhmgaaGreatDoorZ26
import Derived.Test.YtdjocfajcbhmgaaGreatDoorSy8
set_option linter.unusedSimpArgs false
set_option linter.unusedVariables false
set_option linter.unusedSectionVars false
namespace Go.Sy
open Go.Proofs
set_option maxRecDepth 100000
attribute [local irreducible] SOps Goes DOps EOps FOps
theorem FB(l:List Int)(gx:l.length * 8≤140737488355328):vR Tryz.prog 83 [C1 (cA l)] (fun _:Value=>True) (fun v=>.v (C1 (.val v))) (fun v=>[(3,1,[(v,l.map fun r=>[CT.int .i64 r])])]):=by
 refine oH (c:=_) Tryz.func83 rfl rfl rfl (by decide) fun w M0 H=>?_
 repeat'(first|refine bH J ?_|(refine al ?_;refine aj th J ?_)|(refine au mix J J ?_;refine ak th J ?_)|(refine ao mix J J ?_;refine ay th J ?_)|refine SOps.nil ?_|refine DOps.nil ?_|refine EOps.nil ?_ rfl rfl|((first|refine aq J J ?_ ?_|refine av J J J ?_ ?_|refine aU J ?_ ?_)<;>intro hb<;>(try simp only[aF]at hb)<;>first|(exfalso;omega)|refine aj th J ?_|refine ak th J ?_|skip)|((first|refine dV J J J J ?_|refine p9 th J J J J J J J (fun b nI=>?_));refine aj th J ?_)|(refine jv th J J J J J J J J J J J J J J (by constructor<;>simp<;>omega) ?_;refine aj th J ?_))
 ·have hl:l=[]:=by simpa using nI hb
  subst hl
  refine kt 5 3 1 J J ?_
  refine l8 5 J J J J ?_
  refine yp 2 J ?_
  exact lE th Tryz.func83 [5] (.slice none 0 0) (.inr ⟨_,rfl⟩) J J J J J J trivial
 ·refine l7 5 J J fun v=>?_
  exact lE th Tryz.func83 [5] v (.inr ⟨_,rfl⟩) J J J J J J trivial
theorem FA(l:List ByteArray)(gx:l.length * 16≤140737488355328):vR Tryz.prog 115 [C1 (bh l)] (fun _:Value=>True) (fun v=>.v (C1 (.val v))) (fun v=>[(9,1,[(v,l.map fun r=>[CT.str r])])]):=by
 refine oH (c:=_) Tryz.func115 rfl rfl rfl (by decide) fun w M0 H=>?_
 repeat'(first|refine bH J ?_|(refine al ?_;refine aj th J ?_)|(refine au mix J J ?_;refine ak th J ?_)|(refine ao mix J J ?_;refine ay th J ?_)|refine SOps.nil ?_|refine DOps.nil ?_|refine EOps.nil ?_ rfl rfl|((first|refine aq J J ?_ ?_|refine av J J J ?_ ?_|refine aU J ?_ ?_)<;>intro hb<;>(try simp only[aF]at hb)<;>first|(exfalso;omega)|refine aj th J ?_|refine ak th J ?_|skip)|((first|refine dV J J J J ?_|refine p9 th J J J J J J J (fun b nI=>?_));refine aj th J ?_)|(refine jv th J J J J J J J J J J J J J J (by constructor<;>simp<;>omega) ?_;refine aj th J ?_))
 ·have hl:l=[]:=by simpa using nI hb
  subst hl
  refine kt 5 9 1 J J ?_
  refine l8 5 J J J J ?_
  refine yp 2 J ?_
  exact lE th Tryz.func115 [5] (.slice none 0 0) (.inr ⟨_,rfl⟩) J J J J J J trivial
 ·refine l7 5 J J fun v=>?_
  exact lE th Tryz.func115 [5] v (.inr ⟨_,rfl⟩) J J J J J J trivial
abbrev rn(m:List ByteArray):List (List CT):=m.map fun r=>[CT.str r]
abbrev sO(l:List Int):List (List CT):=l.map fun r=>[CT.int .i64 r]
abbrev pX(l:List Value):List (List CT):=l.map fun h=>[CT.val h]
abbrev jj(hs:List Value)(ms:List (List ByteArray)):PQ:=(hs.zip ms).map fun q=>(q.1,rn q.2)
abbrev Gp(s:jd)(x:Value×Value×List Value):PL:=[(3,1,[(x.1,sO s.at_)]),(24,1,[(x.2.1,pX x.2.2)]),(9,1,jj x.2.2 s.bY)]
structure Jl(s:jd):Prop where
 at_:s.at_.length * 8≤140737488355328
 bY:s.bY.length * 24≤140737488355328
 each:∀m∈s.bY,m.length * 16≤140737488355328
def Un:Nat→Value×Value→TM
 |1,x=>[(20,.v (C1 (.val x.1)))]
 |2,x=>[(21,.v (C1 (.slice true 1 [[.val x.1]])))]
 |3,x=>[(22,.v (C1 (.val x.2)))]
 |_,_=>[]
def Um(m:List ByteArray)(at_:List Int)(qs:PQ)(vA vM:Value)(hs:List Value):Nat→Value×Value→MM
 |0,_=>[(93,.bG 9 1 qs),(92,.bG 24 1 [(vM,pX hs)]),(91,.bG 3 1 [(vA,sO at_)]),(3,.box [.c (.val vA),.c (.val vM)]),(2,.box [.c .bK,.c .bK])]
 |1,x|2,x=>[(99,.bG 9 1 [(x.1,rn m)]),(93,.bG 9 1 qs),(92,.bG 24 1 [(vM,pX hs)]),(91,.bG 3 1 [(vA,sO at_)]),(3,.box [.c (.val vA),.c (.val vM)]),(2,.box [.c .bK,.c .bK])]
 |3,x=>[(99,.bG 9 1 [(x.1,rn m)]),(93,.bG 9 1 qs),(92,.bG 24 1 [(x.2,pX hs++[[.val x.1]])]),(91,.bG 3 1 [(vA,sO at_)]),(3,.box [.c (.val vA),.c (.val vM)]),(2,.box [.c .bK,.c .bK])]
 |_,x=>[(99,.bG 9 1 [(x.1,rn m)]),(93,.bG 9 1 qs),(92,.bG 24 1 [(x.2,pX hs++[[.val x.1]])]),(91,.bG 3 1 [(vA,sO at_)]),(3,.box [.c (.val vA),.c (.val x.2)]),(2,.box [.c .bK,.c .bK])]
set_option maxHeartbeats 4000000 in
theorem A2(s:jd)(hb:Jl s):vR Tryz.prog 71 [Ag s.cs] (fun x:Value×Value×List Value=>x.2.2.length=s.bY.length) (fun x=>.v (.agg [.c (.val x.1),.c (.val x.2.1)])) (Gp s):=by
 refine oH (c:=_) Tryz.func71 rfl rfl rfl (by decide) fun w M0 H=>?_
 repeat'(first|refine bH J ?_|(refine al ?_;refine aj th J ?_)|(refine au mix J J ?_;refine ak th J ?_)|(refine ao mix J J ?_;refine ay th J ?_)|refine SOps.nil ?_|refine DOps.nil ?_|refine EOps.nil ?_ rfl rfl|((first|refine aq J J ?_ ?_|refine av J J J ?_ ?_|refine aU J ?_ ?_)<;>intro hb<;>(try simp only[aF]at hb)<;>first|(exfalso;omega)|refine aj th J ?_|refine ak th J ?_|skip)|(refine mu (FB s.at_ hb.at_) [91] J J J J J J J J J (fun _=>rfl) (fun vA _=>?_);refine aj th J ?_))
 refine ID 3 1 J J ?_
 refine kt 92 24 1 J J ?_
 refine l8 92 J J J J ?_
 refine kt 93 9 1 J J ?_
 refine Lh (fun(k:Nat) (_:Value) (hs:List Value)=>k≤s.bY.length∧hs.length=k)
  (fun k _ _=>[(2,.v (.one (.ptr 2 0))),(3,.v (.one (.ptr 3 0))),(11,.v (C1 (jL s.bY))),(12,.v (C1 (.int .i64 (s.bY.length:Int)))),(13,.v (C1 (.int .i64 (k:Int))))])
  (fun k vM hs=>[(93,.bG 9 1 (jj hs (s.bY.take k))),(92,.bG 24 1 [(vM,pX hs)]),(91,.bG 3 1 [(vA,sO s.at_)]),(3,.box [.c (.val vA),.c (.val vM)]),(2,.box [.c .bK,.c .bK])])
  (fun k _ _=>s.bY.length - k) 0 (.slice none 0 0) [] ⟨aM _,rfl⟩
  (fun a w h=>h.sub (by exact⟨⟨_,rfl,.refl _⟩,⟨_,rfl,.refl _⟩,⟨_,rfl,.refl _⟩,⟨_,rfl,aC (by simp)⟩,⟨_,rfl,aC J⟩,trivial⟩)
    (by(repeat refine⟨⟨_,rfl,.refl _⟩,?_⟩);trivial) J J J) (fun k vM hs hk ih=>?_)
 obtain⟨hk,Tz⟩:=hk
 by_cases bo:k < s.bY.length
 ·have hx:(s.bY.map fun m=>[bh m])[k]? =some [bh s.bY[k]]:=by simp[bo]
  have Wn:=hb.each s.bY[k] (az bo)
  have U5:=hb.bY
  repeat'(first|(refine yr (ι:=Value×Value) [3,4,5,7] [92] Un (Um s.bY[k] s.at_ (jj hs (s.bY.take k)) vA vM hs) (vM,vM) mix J (fun k x hk=>by match k,hk with|0,_|1,_|2,_|3,_=>(refine ix ?_;repeat (first|exact trivial|refine⟨rfl,?_⟩))) J (fun k x=>by match k with|0|1|2|3|_+4=>rfl) J J (by simp) J J ?_;refine qz th J ?_)|refine bH J ?_|(refine al ?_;refine aj th J ?_)|(refine au mix J J ?_;refine ak th J ?_)|(refine ao mix J J ?_;refine ay th J ?_)|refine SOps.nil ?_|refine DOps.nil ?_|refine EOps.nil ?_ rfl rfl|((first|refine aq J J ?_ ?_|refine av J J J ?_ ?_|refine aU J ?_ ?_)<;>intro hb<;>(try simp only[aF]at hb)<;>first|(exfalso;omega)|refine aj th J ?_|refine ak th J ?_|skip)|(refine ch th J J J J J J J J J k _ J hx ?_;refine aj th J ?_))
  ·refine FOps.nil ⟨lH.cons rfl (fun x=>?_) (lH.cons rfl (fun x=>?_) (lH.cons rfl (fun x=>?_) (lH.cons rfl (fun x=>?_) lH.nil))),fun x=>?_⟩
   ·exact IP (FA s.bY[k] Wn) [99] J J J J J J J J J J (fun _=>rfl) (fun v=>(v,x.2)) (fun _=>rfl) (fun _=>rfl)
   ·exact OQ (tV th J J J J J J J J J (.refl _) J J) J J J J
   ·exact xi (i:=92) th J J J J J J J J J J J J J J J J 0 J (by constructor<;>simp[Tz]<;>omega) (fun v'=>(x.1,v')) (fun _=>rfl) (fun _=>rfl)
   ·exact IN (i:=3) th J J J J J J J J J J J J
   ·refine Lg 99 93 J J J J J J J J J ?_
    repeat'(first|refine bH J ?_|(refine al ?_;refine aj th J ?_)|(refine au mix J J ?_;refine ak th J ?_)|(refine ao mix J J ?_;refine ay th J ?_)|refine SOps.nil ?_|refine DOps.nil ?_|refine EOps.nil ?_ rfl rfl|((first|refine aq J J ?_ ?_|refine av J J J ?_ ?_|refine aU J ?_ ?_)<;>intro hb<;>(try simp only[aF]at hb)<;>first|(exfalso;omega)|refine aj th J ?_|refine ak th J ?_|skip)|(refine bO J J J J J J (by omega) ?_;refine aj th J ?_))
    have hq:jj hs (s.bY.take k)++[(x.1,rn s.bY[k])]=jj (hs++[x.1]) (s.bY.take (k+1)):=by
     rw[jj,jj,aD bo,List.zip_append (by simp;omega),a6];rfl
    have hv:pX hs++[[.val x.1]]=pX (hs++[x.1]):=by simp
    have cS:=ih (k+1) x.2 (hs++[x.1]) ⟨bo,by simp[Tz]⟩ (by omega)
    exact bJ (by exact⟨⟨_,rfl,.refl _⟩,⟨_,rfl,.refl _⟩,⟨_,rfl,.refl _⟩,⟨_,rfl,.refl _⟩,⟨_,rfl,aC (by omega)⟩,trivial⟩)
     (by exact⟨⟨_,rfl,ox hq⟩,⟨_,rfl,ox (by rw[hv])⟩,⟨_,rfl,.refl _⟩,⟨_,rfl,.refl _⟩,⟨_,rfl,.refl _⟩,trivial⟩) J J J cS
 ·have gn:k=s.bY.length:=by omega
  repeat'(first|refine bH J ?_|(refine al ?_;refine aj th J ?_)|(refine au mix J J ?_;refine ak th J ?_)|(refine ao mix J J ?_;refine ay th J ?_)|refine SOps.nil ?_|refine DOps.nil ?_|refine EOps.nil ?_ rfl rfl|((first|refine aq J J ?_ ?_|refine av J J J ?_ ?_|refine aU J ?_ ?_)<;>intro hb<;>(try simp only[aF]at hb)<;>first|(exfalso;omega)|refine aj th J ?_|refine ak th J ?_|skip))
  refine lE th Tryz.func71 [91,92,93] (vA,vM,hs) (.inr ⟨_,rfl⟩) J J J ?_ rfl rfl (by simp[Tz,gn])
  subst gn
  rw[bC]
  rfl
end Go.Sy
set_option linter.unusedSimpArgs false
set_option linter.unusedVariables false
set_option linter.unusedSectionVars false
namespace Go.Sy
open Go.Proofs
set_option maxRecDepth 100000
attribute [local irreducible] SOps Goes DOps EOps
theorem Nr(n:Nat)(h:n≤5):0≤(n:Int) * n∧(n:Int) * n≤25:=by
 have h1:n * n≤5 * 5:=Nat.mul_le_mul h h
 have h2:((n * n:Nat):Int)=(n:Int) * n:=by simp
 omega
def LH(b:Bk)(a:Int):Bool:=decide (0≤a)&&decide (a < (b.nodes.length:Int))
def wY(m:List ByteArray):Bool:=decide (64 < m.length)
def fa(b:Bk)(roles:List ByteArray)(s:jd):Bool:=
 fH b&&(decide (1≤roles.length)&&(decide (roles.length≤5)&&(lR roles&&(decide (s.at_.length=roles.length)&&(decide (s.bY.length=roles.length * roles.length)&&(s.at_.all (LH b)&&!(s.bY.any wY)))))))
set_option maxHeartbeats 8000000 in
theorem mo(b:Bk)(roles:List ByteArray)(s:jd):dy Tryz.prog 30 [] [Ag b.cs,C1 (bh roles),Ag s.cs] (Rv (.bool (fa b roles s))) []:=by
 have dB:=nO wY s.bY _ Ny
 have QE:=Hl roles
 have Fj:=xt b
 cases hB:fH b with
 |false=>
  rw[hB]at Fj
  rw[show fa b roles s=false by simp[fa,hB]]
  refine bd (c:=_) Tryz.func30 rfl rfl rfl (by decide) fun w M0 H Z=>?_
  repeat'(first|refine bH J ?_|(refine al ?_;refine aj th J ?_)|(refine au mix J J ?_;refine ak th J ?_)|(refine ao mix J J ?_;refine ay th J ?_)|refine SOps.nil ?_|refine DOps.nil ?_|refine EOps.nil ?_ rfl rfl|((first|refine aq J J ?_ ?_|refine av J J J ?_ ?_|refine aU J ?_ ?_)<;>intro hb<;>(try simp only[aF]at hb)<;>first|(exfalso;omega)|refine aj th J ?_|refine ak th J ?_|skip)|refine aT th Tryz.func30 (.inr ⟨_,rfl⟩) J J J ?_ rfl|(refine aS Fj [] J J J J J J J J J J ?_;refine aj th J ?_))
  all_goals exact .refl _
 |true=>
  rw[hB]at Fj
  cases hO:lR roles with
  |false=>
   rw[hO]at QE
   rw[show fa b roles s=false by simp[fa,hO]]
   refine bd (c:=_) Tryz.func30 rfl rfl rfl (by decide) fun w M0 H Z=>?_
   repeat'(first|refine bH J ?_|(refine al ?_;refine aj th J ?_)|(refine au mix J J ?_;refine ak th J ?_)|(refine ao mix J J ?_;refine ay th J ?_)|refine SOps.nil ?_|refine DOps.nil ?_|refine EOps.nil ?_ rfl rfl|((first|refine aq J J ?_ ?_|refine av J J J ?_ ?_|refine aU J ?_ ?_)<;>intro hb<;>(try simp only[aF]at hb)<;>first|(exfalso;omega)|refine aj th J ?_|refine ak th J ?_|skip)|refine aT th Tryz.func30 (.inr ⟨_,rfl⟩) J J J ?_ rfl|((first|refine aS Fj [] J J J J J J J J J J ?_|refine aS QE [] J J J J J J J J J J ?_);refine aj th J ?_)|(exfalso;revert hb;decide))
   all_goals exact .refl _
  |true=>
   rw[hO]at QE
   have sv:(((roles.length * roles.length:Nat)):Int)=(roles.length:Int) * roles.length:=by simp
   have Tf:roles.length≤5→(roles.length:Int) * roles.length≤25∧0≤(roles.length:Int) * roles.length:=fun h=>⟨(Nr _ h).2,(Nr _ h).1⟩
   by_cases hg:1≤roles.length∧roles.length≤5∧s.at_.length=roles.length∧s.bY.length=roles.length * roles.length
   ·obtain⟨V9,UW,V8,UU⟩:=hg
    have Tf:=Tf UW
    have hI:(s.bY.length:Int)=(roles.length:Int) * roles.length:=by rw[UU];exact sv
    rw[show fa b roles s=(s.at_.all (LH b)&&!(s.bY.any wY)) by simp[fa,hB,hO,V9,UW,V8,UU]]
    refine bd (c:=_) Tryz.func30 rfl rfl rfl (by decide) fun w M0 H Z=>?_
    repeat'(first|refine bH J ?_|(refine al ?_;refine aj th J ?_)|(refine au mix J J ?_;refine ak th J ?_)|(refine ao mix J J ?_;refine ay th J ?_)|refine SOps.nil ?_|refine DOps.nil ?_|refine EOps.nil ?_ rfl rfl|((first|refine aq J J ?_ ?_|refine av J J J ?_ ?_|refine aU J ?_ ?_)<;>intro hb<;>(try simp only[aF]at hb)<;>first|(exfalso;omega)|refine aj th J ?_|refine ak th J ?_|skip)|((first|refine aS Fj [] J J J J J J J J J J ?_|refine aS QE [] J J J J J J J J J J ?_|(refine GA J J J J J J (by simp only[aw];omega) ?_));refine aj th J ?_))
    refine bE (fun k:Nat=>k≤s.at_.length∧∀i (h:i < k) (h':i < s.at_.length),LH b s.at_[i]=true)
     (fun k=>[(3,.v (.one (.ptr 3 0))),(5,.v (.one (.ptr 5 0))),(45,.v (C1 (cA s.at_))),(46,.v (C1 (.int .i64 (s.at_.length:Int)))),(47,.v (C1 (.int .i64 (k:Int))))])
     (fun _=>[(5,.box [.c (cA s.at_),.c (jL s.bY)]),(3,.box [.c (jV b.nodes),.c (bh b.names),.c (cA b.roots)])]) (fun k=>s.at_.length - k) 0 ⟨aM _,fun i h=>by omega⟩
     (fun a w h=>h.sub (by exact⟨⟨_,rfl,.refl _⟩,⟨_,rfl,.refl _⟩,⟨_,rfl,.refl _⟩,⟨_,rfl,aC (by simp)⟩,⟨_,rfl,aC J⟩,trivial⟩) (by exact⟨⟨_,rfl,.refl _⟩,⟨_,rfl,.refl _⟩,trivial⟩) J J J) (fun k hk ih=>?_)
    obtain⟨hk,ha⟩:=hk
    by_cases bo:k < s.at_.length
    ·have hx:(s.at_.map fun r=>[CT.int .i64 r])[k]? =some [.int .i64 s.at_[k]]:=by simp[bo]
     repeat'(first|refine bH J ?_|(refine al ?_;refine aj th J ?_)|(refine au mix J J ?_;refine ak th J ?_)|(refine ao mix J J ?_;refine ay th J ?_)|refine SOps.nil ?_|refine DOps.nil ?_|refine EOps.nil ?_ rfl rfl|((first|refine aq J J ?_ ?_|refine av J J J ?_ ?_|refine aU J ?_ ?_)<;>intro hb<;>(try simp only[aF]at hb)<;>first|(exfalso;omega)|refine aj th J ?_|refine ak th J ?_|skip)|refine aT th Tryz.func30 (.inr ⟨_,rfl⟩) J J J ?_ rfl|((first|refine ch th J J J J J J J J J k _ J hx ?_|refine bO J J J J J J (by omega) ?_);refine aj th J ?_))
     all_goals first
      |(have hf:s.at_.all (LH b)=false:=dH.2 ⟨s.at_[k],az bo,by simp[LH];omega⟩
        rw[hf];exact .refl _)
      |exact bJ (by exact⟨⟨_,rfl,.refl _⟩,⟨_,rfl,.refl _⟩,⟨_,rfl,.refl _⟩,⟨_,rfl,.refl _⟩,⟨_,rfl,aC (by omega)⟩,trivial⟩) (by exact⟨⟨_,rfl,.refl _⟩,⟨_,rfl,.refl _⟩,trivial⟩) J J J (ih (k+1) ⟨bo,fun i h h'=>by
        by_cases kJ:i=k
        ·subst kJ;simp[LH];omega
        ·exact ha i (by omega) h'⟩ (by omega))
    ·have gn:k=s.at_.length:=by omega
     subst gn
     rw[show s.at_.all (LH b)=true from aV.2 fun x hx=>by obtain⟨i,hi,rfl⟩:=aB.1 hx;exact ha i hi hi]
     repeat'(first|refine bH J ?_|(refine al ?_;refine aj th J ?_)|(refine au mix J J ?_;refine ak th J ?_)|(refine ao mix J J ?_;refine ay th J ?_)|refine SOps.nil ?_|refine DOps.nil ?_|refine EOps.nil ?_ rfl rfl|((first|refine aq J J ?_ ?_|refine av J J J ?_ ?_|refine aU J ?_ ?_)<;>intro hb<;>(try simp only[aF]at hb)<;>first|(exfalso;omega)|refine aj th J ?_|refine ak th J ?_|skip)|refine aT th Tryz.func30 (.inr ⟨_,rfl⟩) J J J ?_ rfl|(refine aS dB [] J J J J J J J J J J ?_;refine aj th J ?_))
     all_goals exact .refl _
   ·rw[show fa b roles s=false by
     cases hm:fa b roles s with
     |false=>rfl
     |true=>simp only[fa,ax,decide_eq_true_eq]at hm;exact absurd ⟨hm.2.1,hm.2.2.1,hm.2.2.2.2.1,hm.2.2.2.2.2.1⟩ hg]
    refine bd (c:=_) Tryz.func30 rfl rfl rfl (by decide) fun w M0 H Z=>?_
    repeat'(first|refine bH J ?_|(refine al ?_;refine aj th J ?_)|(refine au mix J J ?_;refine ak th J ?_)|(refine ao mix J J ?_;refine ay th J ?_)|refine SOps.nil ?_|refine DOps.nil ?_|refine EOps.nil ?_ rfl rfl|((first|refine aq J J ?_ ?_|refine av J J J ?_ ?_|refine aU J ?_ ?_)<;>intro hb<;>(try simp only[aF]at hb)<;>first|(exfalso;omega)|refine aj th J ?_|refine ak th J ?_|skip)|refine aT th Tryz.func30 (.inr ⟨_,rfl⟩) J J J ?_ rfl|((first|refine aS Fj [] J J J J J J J J J J ?_|refine aS QE [] J J J J J J J J J J ?_|(refine GA J J J J J J (by simp only[aw];omega) ?_));refine aj th J ?_))
    all_goals first|exact .refl _|(exfalso;omega)
end Go.Sy
