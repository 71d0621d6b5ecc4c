/- Contracts of layer 13: stage.Begin, slices.EqualFunc, stage.Same. -/
import Derived.Test.YtdjocfajcbhmgaaGreatDoorZ26
import Derived.Test.YtdjocfajcbhmgaaGreatDoorGj
set_option linter.unusedSimpArgs false
set_option linter.unusedVariables false
set_option linter.unusedSectionVars false
namespace Go.Sy
open Go.Proofs
set_option maxRecDepth 100000
attribute [local irreducible] SOps Goes DOps EOps
theorem mi{b:Bk}(h:fH b=true):oM b:=by
 intro x hx
 simp only[fH,ax,aV]at h
 have h1:=h.2.2.2 x hx
 unfold j7 at h1
 split at h1
 ·simp only[ax,decide_eq_true_eq]at h1;omega
 ·simp only[ax,decide_eq_true_eq]at h1;omega
def nj(n:Nat)(roots:List Int):jd:=⟨roots,List.replicate (n * n) []⟩
def kP(b:Bk)(roles:List ByteArray)(roots:List Int):jd×Int:=
 if 5 < roles.length then(⟨[],[]⟩,1300)else if fa b roles (nj roles.length roots)=true then(nj roles.length roots,0)else(⟨[],[]⟩,1300)
set_option maxHeartbeats 4000000 in
theorem D9(b:Bk)(roles:List ByteArray)(roots:List Int)(gx:roots.length * 8≤140737488355328):dy Tryz.prog 33 [] [Ag b.cs,C1 (bh roles),C1 (cA roots)] (PI (kP b roles roots)) []:=by
 by_cases h5:5 < roles.length
 ·rw[show kP b roles roots=(⟨[],[]⟩,1300) by simp[kP,h5]]
  refine bd (c:=_) Tryz.func33 rfl rfl rfl (by decide) fun w M0 H Z=>?_
  repeat'(first|refine bH J ?_|(refine al ?_;refine aj th J ?_)|(refine au mix J J ?_;refine ak th J ?_)|(refine ao mix J J ?_;refine ay th J ?_)|refine SOps.nil ?_|refine DOps.nil ?_|refine EOps.nil ?_ rfl rfl|((first|refine aq J J ?_ ?_|refine av J J J ?_ ?_|refine aU J ?_ ?_)<;>intro hb<;>(try simp only[aF]at hb)<;>first|(exfalso;omega)|refine aj th J ?_|refine ak th J ?_|skip)|refine aT th Tryz.func33 (.inr ⟨_,rfl⟩) J J J ?_ rfl)
  all_goals exact .gE (.cons (.agg (.cons (.c (.nil 1)) (.cons (.c (.nil 1)) .nil))) (.cons (.refl _) .nil))
 ·have gw:=mo b roles (nj roles.length roots)
  have Td:roles.length≤5:=by omega
  have Tf:=Nr roles.length Td
  have sv:(((roles.length * roles.length:Nat)):Int)=(roles.length:Int) * roles.length:=by simp
  have vJ:roles.length * roles.length≤5 * 5:=Nat.mul_le_mul Td Td
  have Ii:sF (.slice true 1 (List.replicate (roles.length * roles.length) [.bK])) (.slice true 1 (List.replicate (roles.length * roles.length) [bh []])):=by
   generalize roles.length * roles.length=q
   refine DM ?_
   induction q with
   |zero=>exact .nil
   |succ q ih=>exact .cons (.cons (.nil 1) .nil) ih
  have K0:sF (.slice true 1 (List.replicate (roles.length * roles.length) [bh []])) (jL (nj roles.length roots).bY):=by
   show sF _ (CT.slice false 1 (List.map _ (List.replicate _ _)))
   rw[List.map_replicate]
   exact .nn true 1 _
  cases hM:fa b roles (nj roles.length roots)with
  |true=>
   rw[hM]at gw
   rw[show kP b roles roots=(nj roles.length roots,0) by simp[kP,h5,hM]]
   refine bd (c:=_) Tryz.func33 rfl rfl rfl (by decide) fun w M0 H Z=>?_
   repeat'(first|(refine Goes.mono ?_ (fun _ _ h=>Has.SF (i:=8) (j:=1) J J K0 h))|refine bH J ?_|(refine al ?_;refine aj th J ?_)|(refine au mix J J ?_;refine ak th J ?_)|(refine ao mix J J ?_;refine ay th J ?_)|refine SOps.nil ?_|refine DOps.nil ?_|refine EOps.nil ?_ rfl rfl|((first|refine aq J J ?_ ?_|refine av J J J ?_ ?_|refine aU J ?_ ?_)<;>intro hb<;>(try simp only[aF]at hb)<;>first|(exfalso;omega)|refine aj th J ?_|refine ak th J ?_|skip)|refine aT th Tryz.func33 (.inr ⟨_,rfl⟩) J J J ?_ rfl|((first|refine iY (A7 roots gx) J J J J J J J ?_|(refine yu (fun mm'=>iS (p:=.mul) J J J (IntWalk.i64_in _ (by simp only[aw];omega)) J J) J J ?_)|(refine IQ th J J J J J J J J J J (roles.length * roles.length) (by simp) (by simp) ⟨by omega,by show 24 * (roles.length * roles.length)≤281474976710656;omega⟩ Ii ?_));refine ay th J ?_)|(refine aS gw [] J J J J J J J J J J ?_;refine aj th J ?_))
   all_goals first|exact .refl _|(exfalso;revert hb;decide)
  |false=>
   rw[hM]at gw
   rw[show kP b roles roots=(⟨[],[]⟩,1300) by simp[kP,hM]]
   refine bd (c:=_) Tryz.func33 rfl rfl rfl (by decide) fun w M0 H Z=>?_
   repeat'(first|(refine Goes.mono ?_ (fun _ _ h=>Has.SF (i:=8) (j:=1) J J K0 h))|refine bH J ?_|(refine al ?_;refine aj th J ?_)|(refine au mix J J ?_;refine ak th J ?_)|(refine ao mix J J ?_;refine ay th J ?_)|refine SOps.nil ?_|refine DOps.nil ?_|refine EOps.nil ?_ rfl rfl|((first|refine aq J J ?_ ?_|refine av J J J ?_ ?_|refine aU J ?_ ?_)<;>intro hb<;>(try simp only[aF]at hb)<;>first|(exfalso;omega)|refine aj th J ?_|refine ak th J ?_|skip)|refine aT th Tryz.func33 (.inr ⟨_,rfl⟩) J J J ?_ rfl|((first|refine iY (A7 roots gx) J J J J J J J ?_|(refine yu (fun mm'=>iS (p:=.mul) J J J (IntWalk.i64_in _ (by simp only[aw];omega)) J J) J J ?_)|(refine IQ th J J J J J J J J J J (roles.length * roles.length) (by simp) (by simp) ⟨by omega,by show 24 * (roles.length * roles.length)≤281474976710656;omega⟩ Ii ?_));refine ay th J ?_)|(refine aS gw [] J J J J J J J J J J ?_;refine aj th J ?_))
   all_goals first|exact .gE (.cons (.agg (.cons (.c (.nil 1)) (.cons (.c (.nil 1)) .nil))) (.cons (.refl _) .nil))|(exfalso;revert hb;decide)
set_option maxHeartbeats 4000000 in
theorem AT(l m:List (List ByteArray))(g:Nat)(hc:∀x y,dy Tryz.prog g [] [C1 (bh x),C1 (bh y)] (Rv (.bool (decide (x=y)))) []):
 dy Tryz.prog 111 [] [C1 (jL l),C1 (jL m),.one (.ku g [])] (Rv (.bool (decide (l=m)))) []:=by
 refine bd (c:=_) Tryz.func111 rfl rfl rfl (by decide) fun w M0 H Z=>?_
 refine gl 0 J fun mT=>?_
 simp only[aw]at mT
 by_cases hlen:l.length=m.length
 ·have Ih:((l.map fun x=>[bh x]).length:Int)=((m.map fun x=>[bh x]).length:Int):=by simp[hlen]
  repeat'(first|refine bH J ?_|(refine al ?_;refine aj th J ?_)|(refine au mix J J ?_;refine ak th J ?_)|(refine ao mix J J ?_;refine ay th J ?_)|refine SOps.nil ?_|refine DOps.nil ?_|refine EOps.nil ?_ rfl rfl|((first|refine aq J J ?_ ?_|refine av J J J ?_ ?_|refine aU J ?_ ?_)<;>intro hb<;>(try simp only[aF]at hb)<;>first|(exfalso;omega)|refine aj th J ?_|refine ak th J ?_|skip))
  refine bE (fun k:Nat=>k≤l.length∧∀i (h:i < k) (h1:i < l.length) (h2:i < m.length),l[i]=m[i])
   (fun k=>[(0+1,.v (C1 (jL m))),(0+1+1,.v (.one (.ku g []))),(15,.v (C1 (jL l))),(16,.v (C1 (.int .i64 (l.length:Int)))),(17,.v (C1 (.int .i64 (k:Int))))])
   (fun _=>[]) (fun k=>l.length - k) 0 ⟨aM _,fun i h=>by omega⟩
   (fun a w h=>h.sub (by exact⟨⟨_,rfl,.refl _⟩,⟨_,rfl,.refl _⟩,⟨_,rfl,.refl _⟩,⟨_,rfl,aC (by simp)⟩,⟨_,rfl,aC J⟩,trivial⟩) (by exact trivial) J J J) (fun k hk ih=>?_)
  obtain⟨hk,ha⟩:=hk
  by_cases bo:k < l.length
  ·have mF:k < m.length:=by omega
   have hx:(l.map fun x=>[bh x])[k]? =some [bh l[k]]:=by simp[bo]
   have hy:(m.map fun x=>[bh x])[k]? =some [bh m[k]]:=by simp[mF]
   repeat'(first|refine bH J ?_|(refine al ?_;refine aj th J ?_)|(refine au mix J J ?_;refine ak th J ?_)|(refine ao mix J J ?_;refine ay th J ?_)|refine SOps.nil ?_|refine DOps.nil ?_|refine EOps.nil ?_ rfl rfl|((first|refine aq J J ?_ ?_|refine av J J J ?_ ?_|refine aU J ?_ ?_)<;>intro hb<;>(try simp only[aF]at hb)<;>first|(exfalso;omega)|refine aj th J ?_|refine ak th J ?_|skip)|refine aT th Tryz.func111 (.inr ⟨_,rfl⟩) J J J ?_ rfl|((first|refine ch th J J J J J J J J J k _ J hx ?_|refine ch th J J J J J J J J J k _ J hy ?_|refine oW (hc l[k] m[k]) [] J J J J J J J J J J J J ?_|refine bO J J J J J J (by omega) ?_);refine aj th J ?_))
   all_goals first
    |(have cj:l≠m:=CK bo mF (by simpa using hb)
      rw[show decide (l=m)=false by simpa using cj];exact .refl _)
    |(have cS:=ih (k+1) ⟨bo,fun i h h1 h2=>by
       by_cases kJ:i=k
       ·subst kJ;simpa using hb
       ·exact ha i (by omega) h1 h2⟩ (by omega)
      exact bJ (by exact⟨⟨_,rfl,.refl _⟩,⟨_,rfl,.refl _⟩,⟨_,rfl,.refl _⟩,⟨_,rfl,.refl _⟩,⟨_,rfl,aC (by omega)⟩,trivial⟩) (by exact trivial) J J J cS)
  ·have he:l=m:=yt hlen fun i h1 h2=>ha i (by omega) h1 h2
   repeat'(first|refine bH J ?_|(refine al ?_;refine aj th J ?_)|(refine au mix J J ?_;refine ak th J ?_)|(refine ao mix J J ?_;refine ay th J ?_)|refine SOps.nil ?_|refine DOps.nil ?_|refine EOps.nil ?_ rfl rfl|((first|refine aq J J ?_ ?_|refine av J J J ?_ ?_|refine aU J ?_ ?_)<;>intro hb<;>(try simp only[aF]at hb)<;>first|(exfalso;omega)|refine aj th J ?_|refine ak th J ?_|skip)|refine aT th Tryz.func111 (.inr ⟨_,rfl⟩) J J J ?_ rfl)
   rw[show decide (l=m)=true by simpa using he];exact .refl _
 ·have cj:l≠m:=fun e=>hlen (by rw[e])
  rw[show decide (l=m)=false by simpa using cj]
  repeat'(first|refine bH J ?_|(refine al ?_;refine aj th J ?_)|(refine au mix J J ?_;refine ak th J ?_)|(refine ao mix J J ?_;refine ay th J ?_)|refine SOps.nil ?_|refine DOps.nil ?_|refine EOps.nil ?_ rfl rfl|((first|refine aq J J ?_ ?_|refine av J J J ?_ ?_|refine aU J ?_ ?_)<;>intro hb<;>(try simp only[aF]at hb)<;>first|(exfalso;omega)|refine aj th J ?_|refine ak th J ?_|skip)|refine aT th Tryz.func111 (.inr ⟨_,rfl⟩) J J J ?_ rfl)
  all_goals exact .refl _
def tA(x y:jd):Bool:=decide (x.at_=y.at_)&&decide (x.bY=y.bY)
theorem Dk(x y:jd):dy Tryz.prog 66 [] [Ag x.cs,Ag y.cs] (Rv (.bool (tA x y))) []:=by
 have h1:=IK x.at_ y.at_
 have h2:=AT x.bY y.bY _ Gr
 by_cases ha:x.at_=y.at_
 ·rw[show decide (x.at_=y.at_)=true by simpa using ha]at h1
  rw[show tA x y=decide (x.bY=y.bY) by simp[tA,ha]]
  refine bd (c:=_) Tryz.func66 rfl rfl rfl (by decide) fun w M0 H Z=>?_
  repeat'(first|refine bH J ?_|(refine al ?_;refine aj th J ?_)|(refine au mix J J ?_;refine ak th J ?_)|(refine ao mix J J ?_;refine ay th J ?_)|refine SOps.nil ?_|refine DOps.nil ?_|refine EOps.nil ?_ rfl rfl|((first|refine aq J J ?_ ?_|refine av J J J ?_ ?_|refine aU J ?_ ?_)<;>intro hb<;>(try simp only[aF]at hb)<;>first|(exfalso;omega)|refine aj th J ?_|refine ak th J ?_|skip)|refine aT th Tryz.func66 (.inr ⟨_,rfl⟩) J J J ?_ rfl|((first|refine aS h1 [] J J J J J J J J J J ?_|refine aS h2 [] J J J J J J J J J J ?_);refine aj th J ?_))
  all_goals first|exact .refl _|(exfalso;revert hb;decide)
 ·rw[show decide (x.at_=y.at_)=false by simpa using ha]at h1
  rw[show tA x y=false by simp[tA,ha]]
  refine bd (c:=_) Tryz.func66 rfl rfl rfl (by decide) fun w M0 H Z=>?_
  repeat'(first|refine bH J ?_|(refine al ?_;refine aj th J ?_)|(refine au mix J J ?_;refine ak th J ?_)|(refine ao mix J J ?_;refine ay th J ?_)|refine SOps.nil ?_|refine DOps.nil ?_|refine EOps.nil ?_ rfl rfl|((first|refine aq J J ?_ ?_|refine av J J J ?_ ?_|refine aU J ?_ ?_)<;>intro hb<;>(try simp only[aF]at hb)<;>first|(exfalso;omega)|refine aj th J ?_|refine ak th J ?_|skip)|refine aT th Tryz.func66 (.inr ⟨_,rfl⟩) J J J ?_ rfl|((first|refine aS h1 [] J J J J J J J J J J ?_|refine aS h2 [] J J J J J J J J J J ?_);refine aj th J ?_))
  all_goals first|exact .refl _|exact .v (.one (.lit false))|(exfalso;revert hb;decide)
end Go.Sy
