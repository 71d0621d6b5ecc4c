/- Contracts of layer 13: what is looked for among edges, peer, queue, Over. -/
import Derived.Test.YtdjocfajcbhmgaaGreatDoorZ27
set_option linter.unusedSimpArgs false
set_option linter.unusedVariables false
set_option linter.unusedSectionVars false
namespace Go.Sy
open Go.Proofs
set_option maxRecDepth 100000
attribute [local irreducible] SOps Goes DOps EOps
theorem sB(p:Edge→Bool)(l:List Edge)(g:Nat)(c0:CT)
 (hc:∀e:Edge,dy Tryz.prog g [[c0]] [Ag e.cs,.one (.ptr given 0)] (Rv (.bool (p e))) [[c0]]):
 dy Tryz.prog 84 [[c0]] [C1 (qK l),.one (.ku g [given])] (Rv (.bool (l.any p))) [[c0]]:=by
 have dB:=Ar p l g c0 hc
 have Il:decide (vG p l≥0)=l.any p:=by
  cases hi:l.findIdx? p with
  |none=>
   rw[show vG p l=-1 by simp[vG,hi]]
   rw[bL]at hi
   symm;simp;exact hi
  |some i=>
   rw[show vG p l=(i:Int) by simp[vG,hi]]
   rw[bB]at hi
   obtain⟨h1,h2,_⟩:=hi
   symm;simp;exact⟨l[i],az h1,h2⟩
 rw[←Il]
 refine bd (c:=_) Tryz.func84 rfl rfl rfl (by decide) fun w M0 H Z=>?_
 repeat'(first|refine bH J ?_|(refine al ?_;refine aj th J ?_)|(refine au mix J J ?_;refine ak th J ?_)|(refine ao mix J J ?_;refine ay th J ?_)|refine SOps.nil ?_|refine DOps.nil ?_|refine EOps.nil ?_ rfl rfl|((first|refine aq J J ?_ ?_|refine av J J J ?_ ?_|refine aU J ?_ ?_)<;>intro hb<;>(try simp only[aF]at hb)<;>first|(exfalso;omega)|refine aj th J ?_|refine ak th J ?_|skip)|refine fk th Tryz.func84 (.inr ⟨_,rfl⟩) J J J ⟨?_,rfl⟩|(refine aS dB [given] J J J J J J J J J J ?_;refine aj th J ?_))
 all_goals simp[dI]
theorem Aa(m:ByteArray)(r:List ByteArray)(e:Edge):dy Tryz.prog 85 [[bh (m::r)]] [Ag e.cs,.one (.ptr given 0)] (Rv (.bool (decide (e.label=m)))) [[bh (m::r)]]:=by
 have hx:((m::r).map fun s=>[CT.str s])[0]? =some [.str m]:=rfl
 refine bd (c:=_) Tryz.func85 rfl rfl rfl (by decide) fun w M0 H Z=>?_
 repeat'(first|refine bH J ?_|(refine al ?_;refine aj th J ?_)|(refine au mix J J ?_;refine ak th J ?_)|(refine ao mix J J ?_;refine ay th J ?_)|refine SOps.nil ?_|refine DOps.nil ?_|refine EOps.nil ?_ rfl rfl|((first|refine aq J J ?_ ?_|refine av J J J ?_ ?_|refine aU J ?_ ?_)<;>intro hb<;>(try simp only[aF]at hb)<;>first|(exfalso;omega)|refine aj th J ?_|refine ak th J ?_|skip)|refine fk th Tryz.func85 (.inr ⟨_,rfl⟩) J J J ⟨?_,rfl⟩|(refine fT th J J J J J J J J J 0 _ J hx ?_;refine ak th J ?_))
 all_goals simp[dI]
def vj(s:jd)(r:Nat):Nat:=((s.at_[r]?).getD 0).toNat
def cG(b:Bk)(s:jd)(r:Nat):Nd:=(b.nodes[vj s r]?).getD ⟨0,⟨#[]⟩,[]⟩
def iz(b:Bk)(roles:List ByteArray)(s:jd)(r:Nat):Int:=
 if dw roles (cG b s r).peer=(r:Int)then -1 else dw roles (cG b s r).peer
structure vc(b:Bk)(s:jd)(r:Nat):Prop where
 lt:r < s.at_.length
 ge:0≤s.at_[r]
 le:s.at_[r] < (b.nodes.length:Int)
theorem vc.idx{b:Bk}{s:jd}{r:Nat}(h:vc b s r):(s.at_.map fun r=>[CT.int .i64 r])[r]? =some [.int .i64 (vj s r:Int)]∧(b.nodes.map Nd.cs)[vj s r]? =some (cG b s r).cs:=by
 have h1:=h.lt
 have h2:=h.ge
 have h3:=h.le
 have e:vj s r=(s.at_[r]).toNat:=by simp[vj,h1]
 constructor
 ·rw[e];simp[h1,Int.toNat_of_nonneg h2]
 ·have hl:(s.at_[r]).toNat < b.nodes.length:=by omega
  simp[cG,e,hl]
theorem Dl(b:Bk)(roles:List ByteArray)(s:jd)(r:Nat)(h:vc b s r):dy Tryz.prog 72 [] [Ag b.cs,C1 (bh roles),Ag s.cs,C1 (.int .i64 (r:Int))] (Rv (.int .i64 (iz b roles s r))) []:=by
 obtain⟨hx,hy⟩:=h.idx
 refine bd (c:=_) Tryz.func72 rfl rfl rfl (by decide) fun w M0 H Z=>?_
 repeat'(first|refine bH J ?_|(refine al ?_;refine aj th J ?_)|(refine au mix J J ?_;refine ak th J ?_)|(refine ao mix J J ?_;refine ay th J ?_)|refine SOps.nil ?_|refine DOps.nil ?_|refine EOps.nil ?_ rfl rfl|((first|refine aq J J ?_ ?_|refine av J J J ?_ ?_|refine aU J ?_ ?_)<;>intro hb<;>(try simp only[aF]at hb)<;>first|(exfalso;omega)|refine aj th J ?_|refine ak th J ?_|skip)|refine aT th Tryz.func72 (.inr ⟨_,rfl⟩) J J J ?_ rfl|((first|refine fT th J J J J J J J J J r _ J hx ?_|refine fT th J J J J J J J J J (vj s r) _ J hy ?_|refine dq (s4 roles (cG b s r).peer) [] J J J J J J J J J J J ?_);refine ak th J ?_))
 ·rw[show iz b roles s r=-1 by simp[iz,hb]]
  exact .refl _
 ·rw[show iz b roles s r=dw roles (cG b s r).peer by simp[iz,hb]]
  exact .refl _
theorem ib(roles:List ByteArray)(f t:Nat)(hn:roles.length≤5)(hf:f < 5)(ht:t < 5):dy Tryz.prog 73 [] [C1 (bh roles),C1 (.int .i64 (f:Int)),C1 (.int .i64 (t:Int))] (Rv (.int .i64 ((f * roles.length+t:Nat):Int))) []:=by
 have hm:f * roles.length≤5 * 5:=Nat.mul_le_mul (by omega) hn
 have hmI:(f:Int) * (roles.length:Int)=((f * roles.length:Nat):Int):=by simp
 refine bd (c:=_) Tryz.func73 rfl rfl rfl (by decide) fun w M0 H Z=>?_
 repeat'(first|refine bH J ?_|(refine al ?_;refine aj th J ?_)|(refine au mix J J ?_;refine ak th J ?_)|(refine ao mix J J ?_;refine ay th J ?_)|refine SOps.nil ?_|refine DOps.nil ?_|refine EOps.nil ?_ rfl rfl|((first|refine aq J J ?_ ?_|refine av J J J ?_ ?_|refine aU J ?_ ?_)<;>intro hb<;>(try simp only[aF]at hb)<;>first|(exfalso;omega)|refine aj th J ?_|refine ak th J ?_|skip)|refine aT th Tryz.func73 (.inr ⟨_,rfl⟩) J J J ?_ rfl|((first|(refine GA J J J J J J (by simp only[aw];omega) ?_)|(refine bO J J J J J J (by simp only[aw];omega) ?_));refine aj th J ?_))
 exact aC (by simp)
theorem Kd(m:List ByteArray):dy Tryz.prog 69 [] [C1 (bh m)] (Rv (.bool (decide (0 < m.length)))) []:=by
 refine bd (c:=_) Tryz.func69 rfl rfl rfl (by decide) fun w M0 H Z=>?_
 repeat'(first|refine bH J ?_|(refine al ?_;refine aj th J ?_)|(refine au mix J J ?_;refine ak th J ?_)|(refine ao mix J J ?_;refine ay th J ?_)|refine SOps.nil ?_|refine DOps.nil ?_|refine EOps.nil ?_ rfl rfl|((first|refine aq J J ?_ ?_|refine av J J J ?_ ?_|refine aU J ?_ ?_)<;>intro hb<;>(try simp only[aF]at hb)<;>first|(exfalso;omega)|refine aj th J ?_|refine ak th J ?_|skip)|refine aT th Tryz.func69 (.inr ⟨_,rfl⟩) J J J ?_ rfl)
 rw[show decide (0 < m.length)=decide ((0:Int) < ((m.map fun s=>[CT.str s]).length:Int)) by rw[decide_eq_decide];simp]
 exact .refl _
theorem ki{b:Bk}{roles:List ByteArray}{s:jd}(h:fa b roles s=true):1≤roles.length∧roles.length≤5∧s.at_.length=roles.length∧s.bY.length=roles.length * roles.length∧∀r,r < roles.length→vc b s r:=by
 simp only[fa,ax,decide_eq_true_eq,aV]at h
 obtain⟨_,h1,h2,_,h3,h4,h5,_⟩:=h
 refine⟨h1,h2,h3,h4,fun r hr=>?_⟩
 have ga:r < s.at_.length:=by omega
 have:=h5 _ (az ga)
 simp only[LH,ax,decide_eq_true_eq]at this
 exact⟨ga,this.1,this.2⟩
def nv(b:Bk)(roles:List ByteArray)(s:jd):Bool:=
 fa b roles s&&((List.range s.at_.length).all (fun r=>decide ((cG b s r).kind=0))&&!(s.bY.any fun m=>decide (0 < m.length)))
set_option maxHeartbeats 4000000 in
theorem Hf(b:Bk)(roles:List ByteArray)(s:jd):dy Tryz.prog 27 [] [Ag b.cs,C1 (bh roles),Ag s.cs] (Rv (.bool (nv b roles s))) []:=by
 have gw:=mo b roles s
 have dB:=nO (fun m=>decide (0 < m.length)) s.bY _ Kd
 cases hM:fa b roles s with
 |false=>
  rw[hM]at gw
  rw[show nv b roles s=false by simp[nv,hM]]
  refine bd (c:=_) Tryz.func27 rfl rfl rfl (by decide) fun w M0 H Z=>?_
  repeat'(first|refine bH J ?_|(refine al ?_;refine aj th J ?_)|(refine au mix J J ?_;refine ak th J ?_)|(refine ao mix J J ?_;refine ay th J ?_)|refine SOps.nil ?_|refine DOps.nil ?_|refine EOps.nil ?_ rfl rfl|((first|refine aq J J ?_ ?_|refine av J J J ?_ ?_|refine aU J ?_ ?_)<;>intro hb<;>(try simp only[aF]at hb)<;>first|(exfalso;omega)|refine aj th J ?_|refine ak th J ?_|skip)|refine aT th Tryz.func27 (.inr ⟨_,rfl⟩) J J J ?_ rfl|(refine aS gw [] J J J J J J J J J J ?_;refine aj th J ?_))
  all_goals first|exact .refl _|(exfalso;revert hb;decide)
 |true=>
  rw[hM]at gw
  obtain⟨DR,s9,UM,Pp,w7⟩:=ki hM
  rw[show nv b roles s=((List.range s.at_.length).all (fun r=>decide ((cG b s r).kind=0))&&!(s.bY.any fun m=>decide (0 < m.length))) by simp[nv,hM]]
  refine bd (c:=_) Tryz.func27 rfl rfl rfl (by decide) fun w M0 H Z=>?_
  repeat'(first|refine bH J ?_|(refine al ?_;refine aj th J ?_)|(refine au mix J J ?_;refine ak th J ?_)|(refine ao mix J J ?_;refine ay th J ?_)|refine SOps.nil ?_|refine DOps.nil ?_|refine EOps.nil ?_ rfl rfl|((first|refine aq J J ?_ ?_|refine av J J J ?_ ?_|refine aU J ?_ ?_)<;>intro hb<;>(try simp only[aF]at hb)<;>first|(exfalso;omega)|refine aj th J ?_|refine ak th J ?_|skip)|(refine aS gw [] J J J J J J J J J J ?_;refine aj th J ?_))
  all_goals try(exfalso;revert hb;decide)
  refine bE (fun k:Nat=>k≤s.at_.length∧∀i (h:i < k),(cG b s i).kind=0)
   (fun k=>[(3,.v (.one (.ptr 3 0))),(5,.v (.one (.ptr 5 0))),(15,.v (C1 (cA s.at_))),(16,.v (C1 (.int .i64 (s.at_.length:Int)))),(17,.v (C1 (.int .i64 (k:Int))))])
   (fun _=>[(5,.box [.c (cA s.at_),.c (jL s.bY)]),(3,.box [.c (jV b.nodes),.c (bh b.names),.c (cA b.roots)])]) (fun k=>s.at_.length - k) 0 ⟨aM _,fun i h=>by omega⟩
   (fun a w h=>h.sub (by exact⟨⟨_,rfl,.refl _⟩,⟨_,rfl,.refl _⟩,⟨_,rfl,.refl _⟩,⟨_,rfl,aC (by simp)⟩,⟨_,rfl,aC J⟩,trivial⟩) (by exact⟨⟨_,rfl,.refl _⟩,⟨_,rfl,.refl _⟩,trivial⟩) J J J) (fun k hk ih=>?_)
  obtain⟨hk,ha⟩:=hk
  by_cases bo:k < s.at_.length
  ·obtain⟨hx,hy⟩:=(w7 k (by omega)).idx
   repeat'(first|refine bH J ?_|(refine al ?_;refine aj th J ?_)|(refine au mix J J ?_;refine ak th J ?_)|(refine ao mix J J ?_;refine ay th J ?_)|refine SOps.nil ?_|refine DOps.nil ?_|refine EOps.nil ?_ rfl rfl|((first|refine aq J J ?_ ?_|refine av J J J ?_ ?_|refine aU J ?_ ?_)<;>intro hb<;>(try simp only[aF]at hb)<;>first|(exfalso;omega)|refine aj th J ?_|refine ak th J ?_|skip)|refine aT th Tryz.func27 (.inr ⟨_,rfl⟩) J J J ?_ rfl|((first|refine ch th J J J J J J J J J k _ J hx ?_|refine ch th J J J J J J J J J (vj s k) _ J hy ?_|refine bO J J J J J J (by omega) ?_);refine aj th J ?_))
   all_goals first
    |(have hf:(List.range s.at_.length).all (fun r=>decide ((cG b s r).kind=0))=false:=dH.2 ⟨k,cc.2 bo,by simpa using hb⟩
      rw[hf];exact .refl _)
    |exact bJ (by exact⟨⟨_,rfl,.refl _⟩,⟨_,rfl,.refl _⟩,⟨_,rfl,.refl _⟩,⟨_,rfl,.refl _⟩,⟨_,rfl,aC (by omega)⟩,trivial⟩) (by exact⟨⟨_,rfl,.refl _⟩,⟨_,rfl,.refl _⟩,trivial⟩) J J J (ih (k+1) ⟨bo,fun i h=>by
      by_cases kJ:i=k
      ·subst kJ;simpa using hb
      ·exact ha i (by omega)⟩ (by omega))
  ·have gn:k=s.at_.length:=by omega
   subst gn
   rw[show(List.range s.at_.length).all (fun r=>decide ((cG b s r).kind=0))=true from aV.2 fun i hi=>by simpa using ha i (cc.1 hi)]
   repeat'(first|refine bH J ?_|(refine al ?_;refine aj th J ?_)|(refine au mix J J ?_;refine ak th J ?_)|(refine ao mix J J ?_;refine ay th J ?_)|refine SOps.nil ?_|refine DOps.nil ?_|refine EOps.nil ?_ rfl rfl|((first|refine aq J J ?_ ?_|refine av J J J ?_ ?_|refine aU J ?_ ?_)<;>intro hb<;>(try simp only[aF]at hb)<;>first|(exfalso;omega)|refine aj th J ?_|refine ak th J ?_|skip)|refine aT th Tryz.func27 (.inr ⟨_,rfl⟩) J J J ?_ rfl|(refine aS dB [] J J J J J J J J J J ?_;refine aj th J ?_))
   all_goals exact .refl _
end Go.Sy
