/- Contracts of layer 13: stage.Do, the walk. -/
import Derived.Test.YtdjocfajcbhmgaaGreatDoorZ30
set_option linter.unusedSimpArgs false
set_option linter.unusedVariables false
set_option linter.unusedSectionVars false
namespace Go.Sy
open Go.Proofs
set_option maxRecDepth 100000
attribute [local irreducible] SOps Goes DOps EOps FOps
def Uk:Nat→Value→TM
 |1,v=>[(57,.v (C1 (.val v)))]
 |_,_=>[]
def CM(b:Bk)(s:jd)(m:Mv)(vA vM:Value)(rows:List (List CT))(qs:PQ):MM:=
 [(10,.box [.c (.val vA),.c (.val vM)]),(91,.bG 3 1 [(vA,sO s.at_)]),(92,.bG 24 1 [(vM,rows)]),(93,.bG 9 1 qs),(8,.box [.c .bK,.c .bK]),
  (7,.box [.c (.int .i64 m.kind),.c (.int .i64 m.role),.c (.str m.label)]),(6,.box [.c (cA s.at_),.c (jL s.bY)]),(4,.box [.c (jV b.nodes),.c (bh b.names),.c (cA b.roots)])]
def Uj(b:Bk)(s:jd)(m:Mv)(vA vM:Value)(rows:List (List CT))(qs:PQ)(q:Nat)(ys:List (List CT)):Nat→Value→MM
 |0,_=>CM b s m vA vM rows qs
 |1,v=>CM b s m vA vM rows (qs.set q (v,ys))
 |_,v=>CM b s m vA vM (rows.set q [.val v]) (qs.set q (v,ys))
def Ss:Nat→Unit→TM:=fun _ _=>[]
def GP(b:Bk)(s:jd)(m:Mv)(vA vM:Value)(rows:List (List CT)):MM:=
 [(10,.box [.c (.val vA),.c (.val vM)]),(91,.bG 3 1 [(vA,sO s.at_)]),(92,.bG 24 1 [(vM,rows)]),(8,.box [.c .bK,.c .bK]),
  (7,.box [.c (.int .i64 m.kind),.c (.int .i64 m.role),.c (.str m.label)]),(6,.box [.c (cA s.at_),.c (jL s.bY)]),(4,.box [.c (jV b.nodes),.c (bh b.names),.c (cA b.roots)])]
def Sr(b:Bk)(s:jd)(m:Mv)(vA vM:Value)(rows:List (List CT))(q:Nat)(ys:List (List CT)):Nat→Unit→MM
 |0,_=>GP b s m vA vM rows
 |_,_=>GP b s m vA vM (rows.set q [.slice false 1 ys])
set_option maxHeartbeats 16000000 in
theorem Rk(b:Bk)(roles:List ByteArray)(s:jd)(m:Mv)(hA:oM b):dy Tryz.prog 28 [] [Ag b.cs,C1 (bh roles),Ag s.cs,Ag m.cs] (PI (IT b roles s m)) []:=by
 have gw:=mo b roles s
 have N7:=s5 b roles s hA
 have dB:=yw (c9 b roles s) m
 cases hM:fa b roles s with
 |false=>
  rw[hM]at gw
  rw[show IT b roles s m=(⟨[],[]⟩,1300) by simp[IT,hM]]
  refine bd (c:=_) Tryz.func28 rfl rfl rfl (by decide) fun w M0 H Z=>?_
  repeat'(first|refine bH J ?_|(refine al ?_;refine aj th J ?_)|(refine au mix J J ?_;refine ak th J ?_)|(refine ao mix J J ?_;refine ay th J ?_)|refine SOps.nil ?_|refine DOps.nil ?_|refine EOps.nil ?_ rfl rfl|((first|refine aq J J ?_ ?_|refine av J J J ?_ ?_|refine aU J ?_ ?_)<;>intro hb<;>(try simp only[aF]at hb)<;>first|(exfalso;omega)|refine aj th J ?_|refine ak th J ?_|skip)|refine aT th Tryz.func28 (.inr ⟨_,rfl⟩) J J J ?_ rfl|(refine aS gw [] J J J J J J J J J J ?_;refine aj th J ?_))
  all_goals first|exact .gE (.cons (.agg (.cons (.c (.nil 1)) (.cons (.c (.nil 1)) .nil))) (.cons (.refl _) .nil))|(exfalso;revert hb;decide)
 |true=>
  rw[hM]at gw
  by_cases dL:m∈c9 b roles s
  ·rw[show decide (m∈c9 b roles s)=true by simpa using dL]at dB
   obtain⟨DR,s9,UM,Pp,w7⟩:=ki hM
   obtain⟨_,r,t,K6⟩:=ov dL
   have VH:=K6.lt
   have RR:=K6.MV
   have FU:=Dl b roles s r (w7 r K6.lt)
   rw[K6.peer]at FU
   rw[show IT b roles s m=(qW b roles s m,0) by simp[IT,hM,dL]]
   have AB:=K6.role
   obtain⟨kind,role,label⟩:=m
   simp only at AB
   subst AB
   have gx:=HD hM
   obtain⟨hx,hy⟩:=(w7 r K6.lt).idx
   have fP:r < s.at_.length:=by omega
   rcases K6.kind with⟨hk,JA,hlen⟩|⟨hk,JA,rest,hq⟩
   ·simp only at hk
    subst hk
    have FT:r * roles.length+t < s.bY.length:=by
     rw[Pp]
     have:=bq roles.length (show r+1≤roles.length from VH)
     rw[dt]at this;omega
    have Mk:s.bY[r * roles.length+t]? =some (cf s (r * roles.length+t)):=by simp[cf,FT]
    have JE:qW b roles s ⟨1,(r:Int),label⟩=⟨e9 r label s.at_ (cG b s r).aP,s.bY.set (r * roles.length+t) (cf s (r * roles.length+t)++[label])⟩:=by
     have rL:=K6.peer
     simp[qW,gB,ka,wI,rL]
    have SM:rn (cf s (r * roles.length+t))++[[.str label]]=rn (cf s (r * roles.length+t)++[label]):=by simp
    refine bd (c:=_) Tryz.func28 rfl rfl rfl (by decide) fun w M0 H Z=>?_
    repeat'(first|(have HT:hs.length=s.bY.length:=P7;have Fg:r * roles.length+t < hs.length:=(by omega);have Vz:(pX hs)[r * roles.length+t]? =some [.val hs[r * roles.length+t]]:=(by simp[Fg]);refine yr (ι:=Value) [11,13] [93] Uk (Uj b s ⟨1,(r:Int),label⟩ vA vM (pX hs) (jj hs s.bY) (r * roles.length+t) (rn (cf s (r * roles.length+t))++[[.str label]])) vA mix J (fun k x hk=>by match k,hk with|0,_|1,_=>(refine ix ?_;repeat (first|exact trivial|refine⟨rfl,?_⟩))) J (fun k x=>by match k with|0|1|_+2=>rfl) J J (by simp) J J ?_;refine qz th J ?_)|refine bH J ?_|(refine al ?_;refine aj th J ?_)|(refine au mix J J ?_;refine ak th J ?_)|(refine ao mix J J ?_;refine ay th J ?_)|refine SOps.nil ?_|refine DOps.nil ?_|refine EOps.nil ?_ rfl rfl|((first|refine aq J J ?_ ?_|refine av J J J ?_ ?_|refine aU J ?_ ?_)<;>intro hb<;>(try simp only[aF]at hb)<;>first|(exfalso;omega)|refine aj th J ?_|refine ak th J ?_|skip)|(refine aS gw [] J J J J J J J J J J ?_;refine aj th J ?_)|((first|refine dq N7 [] J J J J J J J J J J J ?_|refine dq dB [] J J J J J J J J J J J ?_);refine ak th J ?_)|((first|(refine mu (A2 s gx) [91,92,93] J J J J J J J J J (fun _=>rfl) (fun x P7=>?_);obtain⟨vA,vM,hs⟩:=x)|refine aS FU [] J J J J J J J J J J ?_|refine aS (ib roles r t s9 (by omega) (by omega)) [] J J J J J J J J J J ?_);refine aj th J ?_)|((first|(refine II (r:=92) th J J J J J J J J J J J 0 J (r * roles.length+t) J (by rw[aw];exact Fg) ?_)|refine D3 (r:=92) th J J J J J J J J J 0 J Vz J ?_|refine Rf th J J J J J J J J J J J J J (.refl _) ?_);refine qz th J ?_))
    refine FOps.nil ⟨lH.cons rfl (fun x=>?_) (lH.cons rfl (fun x=>?_) lH.nil),fun v=>?_⟩
    ·exact xi (i:=93) th J J J J J J J J J J J J J J J J (r * roles.length+t) (Ey (aa Fg) Mk) (by constructor<;>simp<;>omega) (fun v'=>v') (fun _=>rfl) (fun _=>rfl)
    ·exact xh (i:=92) th J J J J J J J J J J J J J J 0 J (by rw[aw];exact Fg) J J
    rw[SM]
    refine xd 93 92 J J J J J J (by rw[wB,wC (by simp[HT]),pX,pX,lJ]) ?_
    have hR:((jj hs s.bY).set (r * roles.length+t) (v,rn (cf s (r * roles.length+t)++[label]))).map (fun q=>[CT.slice false 1 q.2])=(s.bY.set (r * roles.length+t) (cf s (r * roles.length+t)++[label])).map fun m=>[bh m]:=by
     rw[wB,wA (by simp[HT])]
    generalize T0:(s.bY.set (r * roles.length+t) (cf s (r * roles.length+t)++[label])).map (fun m=>[bh m])=R at hR
    repeat'(first|refine bH J ?_|(refine al ?_;refine aj th J ?_)|(refine au mix J J ?_;refine ak th J ?_)|(refine ao mix J J ?_;refine ay th J ?_)|refine SOps.nil ?_|refine DOps.nil ?_|refine EOps.nil ?_ rfl rfl|((first|refine aq J J ?_ ?_|refine av J J J ?_ ?_|refine aU J ?_ ?_)<;>intro hb<;>(try simp only[aF]at hb)<;>first|(exfalso;omega)|refine aj th J ?_|refine ak th J ?_|skip)|((first|refine fT th J J J J J J J J J r _ J hx ?_|refine fT th J J J J J J J J J (vj s r) _ J hy ?_);refine ak th J ?_))
    refine bE (fun j:Nat=>j≤(cG b s r).aP.length)
     (fun j=>[(7,.v (.one (.ptr 7 0))),(8,.v (.one (.ptr 8 0))),(9,.v (C1 (.int .i64 0))),(10,.v (.one (.ptr 10 0))),(84,.v (C1 (qK (cG b s r).aP))),(85,.v (C1 (.int .i64 ((cG b s r).aP.length:Int)))),(86,.v (C1 (.int .i64 (j:Int))))])
     (fun j=>[(10,.box [.c (.val vA),.c (.val vM)]),(91,.bG 3 1 [(vA,sO (e9 r label s.at_ ((cG b s r).aP.take j)))]),(92,.bG 24 1 [(vM,R)]),(8,.box [.c .bK,.c .bK]),(7,.box [.c (.int .i64 1),.c (.int .i64 (r:Int)),.c (.str label)])])
     (fun j=>(cG b s r).aP.length - j) 0 (aM _)
     (fun a w h=>h.sub (by exact⟨⟨_,rfl,.refl _⟩,⟨_,rfl,.refl _⟩,⟨_,rfl,.refl _⟩,⟨_,rfl,.refl _⟩,⟨_,rfl,.refl _⟩,⟨_,rfl,aC (by simp)⟩,⟨_,rfl,aC J⟩,trivial⟩)
       (by exact⟨⟨_,rfl,.refl _⟩,⟨_,rfl,.refl _⟩,⟨_,rfl,ox (by rw[hR])⟩,⟨_,rfl,.refl _⟩,⟨_,rfl,.refl _⟩,trivial⟩) J J J) (fun j hj ih=>?_)
    by_cases eC:j < (cG b s r).aP.length
    ·have NN:((cG b s r).aP.map Edge.cs)[j]? =some ((cG b s r).aP[j]).cs:=by simp[eC]
     have eu:=sa (r:=r) (label:=label) eC s.at_
     have Ql:=pg r label ((cG b s r).aP.take j) s.at_
     have cS:=ih (j+1) eC (by omega)
     have kI:=p7 hA s r
     repeat'(first|refine bH J ?_|(refine al ?_;refine aj th J ?_)|(refine au mix J J ?_;refine ak th J ?_)|(refine ao mix J J ?_;refine ay th J ?_)|refine SOps.nil ?_|refine DOps.nil ?_|refine EOps.nil ?_ rfl rfl|((first|refine aq J J ?_ ?_|refine av J J J ?_ ?_|refine aU J ?_ ?_)<;>intro hb<;>(try simp only[aF]at hb)<;>first|(exfalso;omega)|refine aj th J ?_|refine ak th J ?_|skip)|((first|refine ch th J J J J J J J J J j _ J NN ?_|(refine Gy (r:=91) th J J J J J J J J J J 0 J r J (by simp[Ql];omega) ?_)|(refine zi (r:=91) th J J J J J J J J J J J J J 0 J (by simp[Ql];omega) ?_)|refine bO J J J J J J (by omega) ?_);refine aj th J ?_))
     ·rw[if_pos (by simpa using hb)]at eu
      rw[eu]at cS
      exact bJ (by exact⟨⟨_,rfl,.refl _⟩,⟨_,rfl,.refl _⟩,⟨_,rfl,.refl _⟩,⟨_,rfl,.refl _⟩,⟨_,rfl,.refl _⟩,⟨_,rfl,.refl _⟩,⟨_,rfl,aC (by omega)⟩,trivial⟩)
       (by exact⟨⟨_,rfl,.refl _⟩,⟨_,rfl,ox (by simp[sO,lJ])⟩,⟨_,rfl,.refl _⟩,⟨_,rfl,.refl _⟩,⟨_,rfl,.refl _⟩,trivial⟩) J J J cS
     ·rw[if_neg (by simpa using hb)]at eu
      rw[eu]at cS
      exact bJ (by exact⟨⟨_,rfl,.refl _⟩,⟨_,rfl,.refl _⟩,⟨_,rfl,.refl _⟩,⟨_,rfl,.refl _⟩,⟨_,rfl,.refl _⟩,⟨_,rfl,.refl _⟩,⟨_,rfl,aC (by omega)⟩,trivial⟩)
       (by(repeat refine⟨⟨_,rfl,.refl _⟩,?_⟩);trivial) J J J cS
    ·have AH:j=(cG b s r).aP.length:=by omega
     subst AH
     rw[bC]
     refine oF 91 10 0 J J J J J J J ?_
     refine oF 92 10 1 J J J J J J J ?_
     rw[JE]
     repeat'(first|refine bH J ?_|(refine al ?_;refine aj th J ?_)|(refine au mix J J ?_;refine ak th J ?_)|(refine ao mix J J ?_;refine ay th J ?_)|refine SOps.nil ?_|refine DOps.nil ?_|refine EOps.nil ?_ rfl rfl|((first|refine aq J J ?_ ?_|refine av J J J ?_ ?_|refine aU J ?_ ?_)<;>intro hb<;>(try simp only[aF]at hb)<;>first|(exfalso;omega)|refine aj th J ?_|refine ak th J ?_|skip))
     refine aT th Tryz.func28 (.inr ⟨_,rfl⟩) J J J ?_ rfl
     rw[←T0]
     exact .refl _
   ·simp only at hk hq
    subst hk
    have FT:t * roles.length+r < s.bY.length:=by
     rw[Pp]
     have:=bq roles.length (show t+1≤roles.length from RR)
     rw[dt]at this;omega
    have Mk:(s.bY.map fun m=>[bh m])[t * roles.length+r]? =some [bh (label::rest)]:=by
     rw[←hq];simp[cf,FT]
    have JE:qW b roles s ⟨2,(r:Int),label⟩=⟨e9 r label s.at_ (cG b s r).aP,s.bY.set (t * roles.length+r) rest⟩:=by
     have rL:=K6.peer
     simp[qW,gB,ka,wI,rL,hq]
    refine bd (c:=_) Tryz.func28 rfl rfl rfl (by decide) fun w M0 H Z=>?_
    repeat'(first|(have HT:hs.length=s.bY.length:=P7;have Fg:t * roles.length+r < s.bY.length:=FT;refine xd 93 92 J J J J J J (wC HT).symm ?_;rw[wA HT];refine yr (ι:=Unit) [10] [] Ss (Sr b s ⟨2,(r:Int),label⟩ vA vM (s.bY.map fun m=>[bh m]) (t * roles.length+r) ((rn (label::rest)).drop 1)) () mix J (fun k x hk=>by match k,hk with|0,_=>(refine ix ?_;repeat (first|exact trivial|refine⟨rfl,?_⟩))) J (fun k x=>rfl) J J (by simp) J J ?_;refine qz th J ?_)|refine bH J ?_|(refine al ?_;refine aj th J ?_)|(refine au mix J J ?_;refine ak th J ?_)|(refine ao mix J J ?_;refine ay th J ?_)|refine SOps.nil ?_|refine DOps.nil ?_|refine EOps.nil ?_ rfl rfl|((first|refine aq J J ?_ ?_|refine av J J J ?_ ?_|refine aU J ?_ ?_)<;>intro hb<;>(try simp only[aF]at hb)<;>first|(exfalso;omega)|refine aj th J ?_|refine ak th J ?_|skip)|(refine aS gw [] J J J J J J J J J J ?_;refine aj th J ?_)|((first|refine dq N7 [] J J J J J J J J J J J ?_|refine dq dB [] J J J J J J J J J J J ?_);refine ak th J ?_)|((first|(refine mu (A2 s gx) [91,92,93] J J J J J J J J J (fun _=>rfl) (fun x P7=>?_);obtain⟨vA,vM,hs⟩:=x)|refine aS FU [] J J J J J J J J J J ?_|refine aS (ib roles t r s9 (by omega) (by omega)) [] J J J J J J J J J J ?_);refine aj th J ?_)|((first|(refine II (r:=92) th J J J J J J J J J J J 0 J (t * roles.length+r) J (by rw[aw];exact Fg) ?_)|refine D3 (r:=92) th J J J J J J J J J 0 J Mk J ?_|refine OO (fun mm'=>xV (j:=1) th J J J J J J J (by simp) J J) J J J ?_);refine qz th J ?_))
    refine FOps.nil ⟨lH.cons rfl (fun x=>?_) lH.nil,fun v=>?_⟩
    ·exact xh (i:=92) th J J J J J J J J J J J J J J 0 J (by rw[aw];exact Fg) J J
    have hR:(s.bY.map fun m=>[bh m]).set (t * roles.length+r) [.slice false 1 ((rn (label::rest)).drop 1)]=(s.bY.set (t * roles.length+r) rest).map fun m=>[bh m]:=by
     rw[lJ];rfl
    generalize T0:(s.bY.set (t * roles.length+r) rest).map (fun m=>[bh m])=R at hR
    repeat'(first|refine bH J ?_|(refine al ?_;refine aj th J ?_)|(refine au mix J J ?_;refine ak th J ?_)|(refine ao mix J J ?_;refine ay th J ?_)|refine SOps.nil ?_|refine DOps.nil ?_|refine EOps.nil ?_ rfl rfl|((first|refine aq J J ?_ ?_|refine av J J J ?_ ?_|refine aU J ?_ ?_)<;>intro hb<;>(try simp only[aF]at hb)<;>first|(exfalso;omega)|refine aj th J ?_|refine ak th J ?_|skip)|((first|refine fT th J J J J J J J J J r _ J hx ?_|refine fT th J J J J J J J J J (vj s r) _ J hy ?_);refine ak th J ?_))
    refine bE (fun j:Nat=>j≤(cG b s r).aP.length)
     (fun j=>[(7,.v (.one (.ptr 7 0))),(8,.v (.one (.ptr 8 0))),(9,.v (C1 (.int .i64 0))),(10,.v (.one (.ptr 10 0))),(84,.v (C1 (qK (cG b s r).aP))),(85,.v (C1 (.int .i64 ((cG b s r).aP.length:Int)))),(86,.v (C1 (.int .i64 (j:Int))))])
     (fun j=>[(10,.box [.c (.val vA),.c (.val vM)]),(91,.bG 3 1 [(vA,sO (e9 r label s.at_ ((cG b s r).aP.take j)))]),(92,.bG 24 1 [(vM,R)]),(8,.box [.c .bK,.c .bK]),(7,.box [.c (.int .i64 2),.c (.int .i64 (r:Int)),.c (.str label)])])
     (fun j=>(cG b s r).aP.length - j) 0 (aM _)
     (fun a w h=>h.sub (by exact⟨⟨_,rfl,.refl _⟩,⟨_,rfl,.refl _⟩,⟨_,rfl,.refl _⟩,⟨_,rfl,.refl _⟩,⟨_,rfl,.refl _⟩,⟨_,rfl,aC (by simp)⟩,⟨_,rfl,aC J⟩,trivial⟩)
       (by exact⟨⟨_,rfl,.refl _⟩,⟨_,rfl,.refl _⟩,⟨_,rfl,ox (by rw[hR])⟩,⟨_,rfl,.refl _⟩,⟨_,rfl,.refl _⟩,trivial⟩) J J J) (fun j hj ih=>?_)
    by_cases eC:j < (cG b s r).aP.length
    ·have NN:((cG b s r).aP.map Edge.cs)[j]? =some ((cG b s r).aP[j]).cs:=by simp[eC]
     have eu:=sa (r:=r) (label:=label) eC s.at_
     have Ql:=pg r label ((cG b s r).aP.take j) s.at_
     have cS:=ih (j+1) eC (by omega)
     have kI:=p7 hA s r
     repeat'(first|refine bH J ?_|(refine al ?_;refine aj th J ?_)|(refine au mix J J ?_;refine ak th J ?_)|(refine ao mix J J ?_;refine ay th J ?_)|refine SOps.nil ?_|refine DOps.nil ?_|refine EOps.nil ?_ rfl rfl|((first|refine aq J J ?_ ?_|refine av J J J ?_ ?_|refine aU J ?_ ?_)<;>intro hb<;>(try simp only[aF]at hb)<;>first|(exfalso;omega)|refine aj th J ?_|refine ak th J ?_|skip)|((first|refine ch th J J J J J J J J J j _ J NN ?_|(refine Gy (r:=91) th J J J J J J J J J J 0 J r J (by simp[Ql];omega) ?_)|(refine zi (r:=91) th J J J J J J J J J J J J J 0 J (by simp[Ql];omega) ?_)|refine bO J J J J J J (by omega) ?_);refine aj th J ?_))
     ·rw[if_pos (by simpa using hb)]at eu
      rw[eu]at cS
      exact bJ (by exact⟨⟨_,rfl,.refl _⟩,⟨_,rfl,.refl _⟩,⟨_,rfl,.refl _⟩,⟨_,rfl,.refl _⟩,⟨_,rfl,.refl _⟩,⟨_,rfl,.refl _⟩,⟨_,rfl,aC (by omega)⟩,trivial⟩)
       (by exact⟨⟨_,rfl,.refl _⟩,⟨_,rfl,ox (by simp[sO,lJ])⟩,⟨_,rfl,.refl _⟩,⟨_,rfl,.refl _⟩,⟨_,rfl,.refl _⟩,trivial⟩) J J J cS
     ·rw[if_neg (by simpa using hb)]at eu
      rw[eu]at cS
      exact bJ (by exact⟨⟨_,rfl,.refl _⟩,⟨_,rfl,.refl _⟩,⟨_,rfl,.refl _⟩,⟨_,rfl,.refl _⟩,⟨_,rfl,.refl _⟩,⟨_,rfl,.refl _⟩,⟨_,rfl,aC (by omega)⟩,trivial⟩)
       (by(repeat refine⟨⟨_,rfl,.refl _⟩,?_⟩);trivial) J J J cS
    ·have AH:j=(cG b s r).aP.length:=by omega
     subst AH
     rw[bC]
     refine oF 91 10 0 J J J J J J J ?_
     refine oF 92 10 1 J J J J J J J ?_
     rw[JE]
     repeat'(first|refine bH J ?_|(refine al ?_;refine aj th J ?_)|(refine au mix J J ?_;refine ak th J ?_)|(refine ao mix J J ?_;refine ay th J ?_)|refine SOps.nil ?_|refine DOps.nil ?_|refine EOps.nil ?_ rfl rfl|((first|refine aq J J ?_ ?_|refine av J J J ?_ ?_|refine aU J ?_ ?_)<;>intro hb<;>(try simp only[aF]at hb)<;>first|(exfalso;omega)|refine aj th J ?_|refine ak th J ?_|skip))
     refine aT th Tryz.func28 (.inr ⟨_,rfl⟩) J J J ?_ rfl
     rw[←T0]
     exact .refl _
  ·rw[show decide (m∈c9 b roles s)=false by simpa using dL]at dB
   rw[show IT b roles s m=(⟨[],[]⟩,1301) by simp[IT,hM,dL]]
   refine bd (c:=_) Tryz.func28 rfl rfl rfl (by decide) fun w M0 H Z=>?_
   repeat'(first|refine bH J ?_|(refine al ?_;refine aj th J ?_)|(refine au mix J J ?_;refine ak th J ?_)|(refine ao mix J J ?_;refine ay th J ?_)|refine SOps.nil ?_|refine DOps.nil ?_|refine EOps.nil ?_ rfl rfl|((first|refine aq J J ?_ ?_|refine av J J J ?_ ?_|refine aU J ?_ ?_)<;>intro hb<;>(try simp only[aF]at hb)<;>first|(exfalso;omega)|refine aj th J ?_|refine ak th J ?_|skip)|refine aT th Tryz.func28 (.inr ⟨_,rfl⟩) J J J ?_ rfl|(refine aS gw [] J J J J J J J J J J ?_;refine aj th J ?_)|((first|refine dq N7 [] J J J J J J J J J J J ?_|refine dq dB [] J J J J J J J J J J J ?_);refine ak th J ?_))
   all_goals first|exact .gE (.cons (.agg (.cons (.c (.nil 1)) (.cons (.c (.nil 1)) .nil))) (.cons (.refl _) .nil))|(exfalso;revert hb;decide)
end Go.Sy
