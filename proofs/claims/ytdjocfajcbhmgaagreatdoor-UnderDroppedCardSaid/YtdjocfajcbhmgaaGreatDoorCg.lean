/- The law UnderDropped. -/
import Derived.Test.YtdjocfajcbhmgaaGreatDoorAu
import Derived.Test.YtdjocfajcbhmgaaGreatDoorZ35
import Derived.Test.YtdjocfajcbhmgaaGreatDoorBj
import Derived.Test.YtdjocfajcbhmgaaGreatDoorZ29
set_option maxHeartbeats 64000000
set_option linter.unusedSimpArgs false
set_option linter.unusedVariables false
set_option linter.unusedSectionVars false
namespace Go.Sy
open Go.Proofs
set_option maxRecDepth 100000
attribute [local irreducible] SOps Goes DOps EOps GOps FOps
abbrev Ja:ByteArray:=⟨#[113]⟩
abbrev MX:ByteArray:=⟨#[112]⟩
theorem Me{p:b7}{nm:ByteArray}{k m:Nat}(hk:k < p.points.length)(h:ix p):ix (jT p nm k m):=fun x hx a ha=>by
 rcases dt (show x∈p.points.set k _ from hx)with h1|rfl
 ·exact h x h1 a ha
 ·have hm:aM p (k:Int)∈p.points:=by
   unfold aM;rw[fI,aG,aa hk];exact an hk
  exact h _ hm a (tz ha)
theorem pY{ps:List b7}(hB:tS ps []){p:b7}(hp:p∈ps){s:ByteArray}(hs:s∈p.aW):yY (dJ (cL ps [])) (fm p.name s)=(eX (cL ps []) (fm p.name s),true):=by
 have h:hasB ((cL ps []).map Loc.name) (fm p.name s)=true:=by
  rw[fh,ud hB.all]
  exact dN _ (bu.2 ⟨p,hp,bp hs⟩)
 rw[Eu hB.parts,h];rfl
theorem U9(s:ByteArray):fm MX s=(⟨#[112,46]⟩:ByteArray)++s:=by
 show(MX++IS)++s=_
 rw[show MX++IS=(⟨#[112,46]⟩:ByteArray) by decide]
theorem U8(s:ByteArray):fm Ja s=(⟨#[113,46]⟩:ByteArray)++s:=by
 show(Ja++IS)++s=_
 rw[show Ja++IS=(⟨#[113,46]⟩:ByteArray) by decide]
theorem ov(made:List Int)(at_ iz:Int)(gW:(made.length+1) * 8≤140737488355328):er Tryz.prog 6 [] [C1 (ch made),C1 (.int .i64 at_),C1 (.int .i64 iz)] (Rv (.bool true)) []:=by
 have hp:er Tryz.prog 21 [[ch (0::made),.int .i64 0]] [.one (.ptr given 0),C1 (.str ⟨#[112]⟩),C1 .bA] (.v (Ag (wL made).cs)) [kO (0::made) (qk ⟨#[112]⟩ [] (0::made) 2 (ic (0::made) 0)).2]:=
  (NQ ⟨#[112]⟩ [] (by simp) (0::made) 0 (aF _) (T5 made)).args (.cons (.one (.refl _)) (.cons (.one (.refl _)) (.cons (.one (.c (.nil 1))) .nil)))
 obtain⟨dq,Yj⟩:∃dq,dq=(qk ⟨#[112]⟩ [] (0::made) 2 (ic (0::made) 0)).2:=⟨_,rfl⟩
 rw[←Yj]at hp
 clear Yj
 obtain⟨hv,hB⟩:=KO made
 have om:=CH made
 have xc:∀y,∀a∈(aM (wL made) y).ax,a.kind≠5:=F2
 have Ts:(wL made).name=MX:=rfl
 obtain⟨p,M3⟩:∃p,p=wL made:=⟨_,rfl⟩
 rw[←M3]at hp hv hB om xc Ts
 clear M3
 have mA:=hJ hv
 have w9:=IN p Ja at_ iz (by rw[om];simp) ⟨by omega,by omega⟩ (fun x hx=>by
  rcases wa (pB hv x hx)with h|h
  ·rw[h];simp
  ·have:=(dx h).1.2;omega)
 unfold nO at w9
 cases hd:dropFd p at_ p.points.length 0 with
 |none=>
  rw[hd]at w9
  simp only at w9
  refine bn (c:=_) Tryz.func6 rfl rfl rfl (by decide) fun w M0 H Z=>?_
  refine il 0 J fun nw=>?_
  simp only[ak]at nw
  repeat'(first|(exfalso;revert hb;simp;done)|refine aA ?_|(refine aB ?_ ?_<;>first|exact aD|(refine aE ?_;intro hb))|(refine aR G4 [] J J J J J J J J J J ?_;refine ao th J ?_)|(refine k8 th J J J J J J J J J J J J J J (by constructor<;>simp<;>omega) ?_;refine fa 25 J J ?_;refine ao th J ?_)|((first|refine Gi (Qa (0::made) (by simpa using gW)) J J J J J J J ?_|refine aR hp [28] J J J J J J J J J J ?_|refine aR w9 [] J J J J J J J J J J ?_);refine ao th J ?_))
  refine aZ th Tryz.func6 (.inr ⟨_,rfl⟩) J J J ?_ rfl
  exact .refl _
 |some k=>
  rw[hd]at w9
  simp only at w9
  obtain⟨hk,h2⟩:=ux (by omega) (by omega) hd
  obtain⟨q,hq⟩:∃q,q=jT p Ja k (pa (aM p (k:Nat)).ax.length iz):=⟨_,rfl⟩
  rw[←hq]at w9
  have Yx:ix q:=by rw[hq];exact Me hk hB
  obtain⟨TD,gb,VH,R4,R3⟩:=dropped hv om hq (by decide) (by rw[Ts];decide) hk h2 xc
  have WC:q.name=Ja:=by rw[hq];rfl
  have RQ:q.aW=p.aW:=by rw[hq];rfl
  have Tu:aM p (k:Nat)=p.points[k]:=by unfold aM;rw[fI,aG,aa hk];rfl
  have hx:(p.points.map kP.cs)[k]? =some (aM p (k:Nat)).cs:=by rw[az,aa hk,Tu];rfl
  have WM:=(Vi [p,q] [] (fun x hx=>by
   rcases ae.1 hx with rfl|hx
   ·exact hB
   ·rw[aq]at hx;subst hx;exact Yx) (fun l hl=>by cases hl)).args (args':=[C1 (cK [p,q]),C1 .bA]) (.cons (.one (.refl _)) (.cons (.one (.c (.nil _))) .nil))
  rw[Rj TD]at WM
  have yr:(dJ (cL [p,q] [])).names.length≤1000000:=dB (qS (cL [p,q] [])) (by unfold cL sW;simp[RQ,om])
  have r1:=As (dJ (cL [p,q] [])) (fm MX (aM p (k:Nat)).from_) yr
  have r2:=As (dJ (cL [p,q] [])) (fm Ja (aM p (k:Nat)).from_) yr
  have r3:=As (dJ (cL [p,q] [])) (fm MX (aM p (k:Nat)).to) yr
  have r4:=As (dJ (cL [p,q] [])) (fm Ja (aM p (k:Nat)).to) yr
  rw[←Ts,pY TD (by simp) gb]at r1
  rw[←WC,pY TD (p:=q) (by simp) (by rw[RQ];exact gb)]at r2
  rw[←Ts,pY TD (by simp) VH]at r3
  rw[←WC,pY TD (p:=q) (by simp) (by rw[RQ];exact VH)]at r4
  rw[Ts]at r1 r3 R4 R3
  rw[WC]at r2 r4
  have c1:=Im (dJ (cL [p,q] [])) (eX (cL [p,q] []) (fm MX (aM p (k:Nat)).from_)) (eX (cL [p,q] []) (fm Ja (aM p (k:Nat)).from_))
  have c2:=Im (dJ (cL [p,q] [])) (eX (cL [p,q] []) (fm Ja (aM p (k:Nat)).to)) (eX (cL [p,q] []) (fm MX (aM p (k:Nat)).to))
  rw[R4]at c1
  rw[R3]at c2
  have Tr:(aM p (k:Nat)).from_.size≤12:=nK ((oH hv).2.1 _ gb)
  have cZ:(aM p (k:Nat)).to.size≤12:=nK ((oH hv).2.1 _ VH)
  generalize eX (cL [p,q] []) (fm MX (aM p (k:Nat)).from_)=x1 at *
  generalize eX (cL [p,q] []) (fm Ja (aM p (k:Nat)).from_)=x2 at *
  generalize eX (cL [p,q] []) (fm MX (aM p (k:Nat)).to)=x3 at *
  generalize eX (cL [p,q] []) (fm Ja (aM p (k:Nat)).to)=x4 at *
  generalize dJ (cL [p,q] [])=B at *
  rw[U9]at r1 r3
  rw[U8]at r2 r4
  rw[show cK [p,q]=.slice false 3 [p.cs,q.cs]from rfl]at WM
  clear hd hq TD gb VH R4 R3 RQ Tu xc hv hB Yx
  generalize aM p (k:Nat)=x at *
  refine bn (c:=_) Tryz.func6 rfl rfl rfl (by decide) fun w M0 H Z=>?_
  refine il 0 J fun nw=>?_
  simp only[ak]at nw
  repeat'(first|(exfalso;revert hb;simp;done)|refine aA ?_|(refine aB ?_ ?_<;>first|exact aD|(refine aE ?_;intro hb))|(refine aR G4 [] J J J J J J J J J J ?_;refine ao th J ?_)|(refine k8 th J J J J J J J J J J J J J J (by constructor<;>simp<;>omega) ?_;refine fa 25 J J ?_;refine ao th J ?_)|((first|refine Gi (Qa (0::made) (by simpa using gW)) J J J J J J J ?_|refine aR hp [28] J J J J J J J J J J ?_|refine aR w9 [] J J J J J J J J J J ?_|(refine fa 43 J J ?_;refine B1 43 (.v (C1 (.slice false 3 [p.cs,q.cs]))) J (.v (.one (.c (.nn true 3 _)))) ?_;refine aR WM [] J J J J J J J J J J ?_));refine ao th J ?_)|(refine qx th J J J J J J J J J k _ J hx ?_;refine dP th J ?_)|((first|refine Gh J J J J J J (dB (Nat.add_le_add_left (by assumption) _) (by decide)) ?_|refine aR r1 [] J J J J J J J J J J ?_|refine aR r2 [] J J J J J J J J J J ?_|refine aR r3 [] J J J J J J J J J J ?_|refine aR r4 [] J J J J J J J J J J ?_|refine aR c1 [] J J J J J J J J J J ?_|refine aR c2 [] J J J J J J J J J J ?_);refine ao th J ?_))
  all_goals
   refine aZ th Tryz.func6 (.inr ⟨_,rfl⟩) J J J ?_ rfl
   exact .refl _
end Go.Sy
