/- Contracts: project's turned. -/
import Derived.Test.YtdjocfajcbhmgaaGreatDoorAu
import Derived.Test.YtdjocfajcbhmgaaGreatDoorJg
import Derived.Test.YtdjocfajcbhmgaaGreatDoorZ1
set_option maxHeartbeats 64000000
set_option linter.unusedSimpArgs false
set_option linter.unusedVariables false
set_option linter.unusedSectionVars false
namespace Go.Sy
open Go.Proofs
set_option maxRecDepth 100000
attribute [local irreducible] SOps Goes DOps EOps FOps GOps
section
variable {p:b7} {role:ByteArray} {S:List (List Int)} {near r:List Int} {x0:Int}
theorem ow(h:near=x0::r):dT p role S near=
 if near.any (fun x=>decide (bc p role x≠bc p role x0))then((gV,802),S)
 else if(bc p role x0).1&&near.any (fun x=>decide (dF (aM p x)≠dK p near))then((gV,803),S)
 else if 6 < (dK p near).length then((gV,805),S)
 else if eN (cr p near)then((gV,804),S)
 else if(di p role (cr p near) (dK p near) [] S).1.2=0 then
  ((⟨kindOf (bc p role x0).1,(bc p role x0).2,(di p role (cr p near) (dK p near) [] S).1.1⟩,0),(di p role (cr p near) (dK p near) [] S).2)
 else((gV,(di p role (cr p near) (dK p near) [] S).1.2),(di p role (cr p near) (dK p near) [] S).2):=by
 subst h;rfl
theorem Jv(h:near=x0::r)(h1:near.any (fun x=>decide (bc p role x≠bc p role x0))=true):dT p role S near=((gV,802),S):=by
 rw[ow h,if_pos h1]
theorem Hx(h:near=x0::r)(h1:near.any (fun x=>decide (bc p role x≠bc p role x0))=false)(h2:((bc p role x0).1&&near.any (fun x=>decide (dF (aM p x)≠dK p near)))=true):
 dT p role S near=((gV,803),S):=by
 rw[ow h,h1,if_neg (by decide),if_pos h2]
theorem Eh(h:near=x0::r)(h1:near.any (fun x=>decide (bc p role x≠bc p role x0))=false)(h2:((bc p role x0).1&&near.any (fun x=>decide (dF (aM p x)≠dK p near)))=false)
 (h3:6 < (dK p near).length):dT p role S near=((gV,805),S):=by
 rw[ow h,h1,if_neg (by decide),h2,if_neg (by decide),if_pos h3]
theorem Ej(h:near=x0::r)(h1:near.any (fun x=>decide (bc p role x≠bc p role x0))=false)(h2:((bc p role x0).1&&near.any (fun x=>decide (dF (aM p x)≠dK p near)))=false)
 (h3:¬6 < (dK p near).length)(h4:eN (cr p near)=true):dT p role S near=((gV,804),S):=by
 rw[ow h,h1,if_neg (by decide),h2,if_neg (by decide),if_neg h3,if_pos h4]
theorem Hy(h:near=x0::r)(h1:near.any (fun x=>decide (bc p role x≠bc p role x0))=false)(h2:((bc p role x0).1&&near.any (fun x=>decide (dF (aM p x)≠dK p near)))=false)
 (h3:¬6 < (dK p near).length)(h4:eN (cr p near)=false):dT p role S near=
 if(di p role (cr p near) (dK p near) [] S).1.2=0 then
  ((⟨kindOf (bc p role x0).1,(bc p role x0).2,(di p role (cr p near) (dK p near) [] S).1.1⟩,0),(di p role (cr p near) (dK p near) [] S).2)
 else((gV,(di p role (cr p near) (dK p near) [] S).1.2),(di p role (cr p near) (dK p near) [] S).2):=by
 rw[ow h,h1,if_neg (by decide),h2,if_neg (by decide),if_neg h3,h4,if_neg (by decide)]
theorem Ad{k:Nat}(h:k < near.length):dK p (near.take (k+1))=(dF (aM p near[k])).foldl j2 (dK p (near.take k)):=by
 unfold dK
 rw[al h,ee];rfl
theorem o7:∀(l out:List ByteArray),(l.foldl j2 out).length≤out.length+l.length
 |[],out=>by simp
 |s::l,out=>by
  have h1:=o7 l (j2 out s)
  have h2:=vS out s
  simp only[cJ,cd];omega
theorem zz(hv:dj p=true)(x:Int):(dF (aM p x)).length≤6:=by
 have h1:=zA (aM p x).ax
 have h2:(aM p x).ax.length≤6:=by
  rcases fB hv x with h|h
  ·rw[h];simp
  ·exact(dx h).1.2
 exact dB h1 h2
theorem xR(hv:dj p=true):∀k,(dK p (near.take k)).length≤6 * k
 |0=>by simp[dK]
 |k+1=>by
  have ih:=xR hv k
  by_cases h:k < near.length
  ·rw[Ad h]
   have h1:=o7 (dF (aM p near[k])) (dK p (near.take k))
   have h2:=zz hv near[k]
   omega
  ·rw[show near.take (k+1)=near.take k by rw[bC (by omega),bC (by omega)]]
   omega
end
abbrev tX(p:b7)(role:ByteArray)(S:List (List Int))(near:List Int):ST:=.fo [Ag (dT p role S near).1.1.cs,C1 (.int .i64 (dT p role S near).1.2)]
def YD(p:b7)(role:ByteArray)(v:Value)(S:List (List Int))(kd:Int)(s2:ByteArray)(cm:lS)(x:nT):MM:=
 [(119,.fw (dI iC (kH x))),(120,.fw (qj cm)),(300,.bF 3 1 (gh x)),(12,.box [.c (.int .i64 kd),.c (.str s2),.c .bA]),(4,.box [.c (.int .i64 0),.c (.str ⟨#[]⟩),.c .bA]),
  (given,.box (mj p role v)),(given+1,oQ S),(1,.bF 22 1 [(v,jO S)])]
theorem xM{p:b7}{near:List Int}{k:Nat}(h:k < near.length):cr p (near.take (k+1))=cr p (near.take k)++(aM p near[k]).ax:=by
 unfold cr
 rw[al h,List.flatMap_append];simp
theorem DQ{p:b7}{near:List Int}{k j:Nat}(h:k < near.length)(hj:j < (aM p near[k]).ax.length):∃r,cr p near=(cr p (near.take k)++(aM p near[k]).ax.take j)++(aM p near[k]).ax[j]::r:=by
 refine⟨(aM p near[k]).ax.drop (j+1)++cr p (near.drop (k+1)),?_⟩
 have h1:cr p near=cr p (near.take (k+1))++cr p (near.drop (k+1)):=by
  unfold cr;rw[←List.flatMap_append,nW]
 have h2:(aM p near[k]).ax=(aM p near[k]).ax.take j++(aM p near[k]).ax[j]::(aM p near[k]).ax.drop (j+1):=by
  rw[←cX hj,nW]
 have h3:(aM p near[k]).ax++cr p (near.drop (k+1))=((aM p near[k]).ax.take j++(aM p near[k]).ax[j]::(aM p near[k]).ax.drop (j+1))++cr p (near.drop (k+1)):=by rw[←h2]
 rw[h1,xM h,bf,h3]
 simp only[bf,cH]
theorem tM{p:b7}(hv:dj p=true):∀near:List Int,(cr p near).length≤6 * near.length
 |[]=>by simp[cr]
 |x::l=>by
  have ih:=tM hv l
  have h2:(aM p x).ax.length≤6:=by
   rcases fB hv x with h|h
   ·rw[h];simp
   ·exact(dx h).1.2
  simp only[cr,ef,au,cd]at ih⊢
  omega
theorem zn(arr:List bD)(s:ByteArray):(df arr s).length≤arr.length:=by
 unfold df
 rw[ak]
 exact cR _ _
theorem CB{p:b7}(hv:dj p=true){near:List Int}{s:ByteArray}:∀x∈df (cr p near) s,0≤x∧x < (p.points.length:Int):=by
 intro x hx
 unfold df cr at hx
 obtain⟨a,ha,rfl⟩:=aL.1 hx
 obtain⟨y,_,hy⟩:=bu.1 (cn.1 ha).1
 exact ju hv y a hy
def Vw(X:MM)(m0:List (FV×FV))(m1:Value→List (FV×FV))(q0:PQ)(q1:Value→PQ):Nat→Value→MM
 |0,_=>(119,.fw m0)::(300,.bF 3 1 q0)::X
 |1,v=>(119,.fw m0)::(300,.bF 3 1 (q1 v))::X
 |_,v=>(119,.fw (m1 v))::(300,.bF 3 1 (q1 v))::X
def Gk:Nat→Value→TM
 |1,v=>[(171,.v (.one (.c (.val v))))]
 |_,_=>[]
theorem r6{e sz:Nat}{a b:PQ}(h:a=b):Jk (.bF e sz a) (.bF e sz b):=by subst h;exact .refl _
abbrev Jm:MO:=.box [.c (.int .i64 0),.c (.str ⟨#[]⟩),.c .bA]
theorem HN(p:b7)(hv:dj p=true)(hB:ix p)(role:ByteArray)(hh:hasB p.aW role=true)(v:Value)(S:List (List Int))(hS:po p S)(near:List Int)(od:∀x∈near,0≤x∧x < (p.points.length:Int))(yr:near.length≤24):
 nV Tryz.prog 56 (kN p role v S) [.one (.ptr given 0),C1 (ch near)] (fun _:Value=>True) (fun _=>tX p role S near) (fun v'=>kN p role v' (dT p role S near).2):=by
 cases cV:near with
 |nil=>
  refine jH (c:=_) Tryz.func56 rfl rfl rfl (by decide) J fun w M0 H Z hd=>?_
  repeat'(first|refine aA ?_|(refine aB ?_ ?_<;>first|exact aD|(refine aE ?_;intro hb))|fail)
  all_goals first
   |(exfalso;revert hb;simp;done)
   |(refine xh 4 2 (fM []) J J (.nil 4) ?_
     exact gq (hd:=hd) th Tryz.func56 v (.inr ⟨_,rfl⟩) J J J J ⟨rfl,rfl,rfl,trivial⟩ rfl rfl rfl trivial)
 |cons x0 rr=>
  rw[←cV]
  have WZ:0 < near.length:=by rw[cV];simp
  have Iq:(near.map fun r=>[CT.int .i64 r])[0]? =some [.int .i64 x0]:=by rw[cV];rfl
  have Wp:=od x0 (by rw[cV];exact ah)
  have Ld:=JC p role v S x0 Wp
  obtain⟨s1,s2,hs⟩:∃a b,bc p role x0=(a,b):=⟨_,_,rfl⟩
  simp only[hs]at Ld
  refine jH (c:=_) Tryz.func56 rfl rfl rfl (by decide) J fun w M0 H Z hd=>?_
  repeat'(first|refine aA ?_|(refine aB ?_ ?_<;>first|exact aD|(refine aE ?_;intro hb))|((first|refine bO th J J J J J J J J J 0 _ J Iq ?_|refine iI Ld [] J J J J ⟨rfl,rfl,rfl,trivial⟩ ⟨rfl,rfl,rfl,rfl,rfl⟩ (fun _=>⟨rfl,rfl,rfl,rfl,rfl,rfl,rfl⟩) (fun _=>rfl) (fun _=>rfl) J J J (fun _ _=>?_));refine ao th J ?_))
  all_goals try(exfalso;simp only[ak]at hb;omega)
  refine bE (fun k:Nat=>k≤near.length∧(near.take k).any (fun x=>decide (bc p role x≠bc p role x0))=false)
   (fun k=>[(0,.v (.one (.ptr given 0))),(1,.v (C1 (ch near))),(4,.v (.one (.ptr 4 0))),(5,.v (C1 (.int .i64 0))),(6,.v (C1 (.bool s1))),(7,.v (C1 (.str s2))),(44,.v (C1 (ch near))),(45,.v (C1 (.int .i64 (near.length:Int)))),(46,.v (C1 (.int .i64 (k:Int))))])
   (fun _=>(4,Jm)::kN p role v S)
   (fun k=>near.length - k) 0 ⟨aF _,rfl⟩
   aH (fun k hk ih=>?_)
  obtain⟨hk,BI⟩:=hk
  by_cases bj:k < near.length
  ·have hx:(near.map fun r=>[CT.int .i64 r])[k]? =some [.int .i64 near[k]]:=by simp[bj]
   have yo:=od _ (an bj)
   have GM:=JC p role v S near[k] yo
   obtain⟨y1,y2,hy⟩:∃a b,bc p role near[k]=(a,b):=⟨_,_,rfl⟩
   simp only[hy]at GM
   have BE:=p8 bj (fun x=>decide (bc p role x≠bc p role x0))
   rw[BI,gZ]at BE
   repeat'(first|refine aA ?_|(refine aB ?_ ?_<;>first|exact aD|(refine aE ?_;intro hb))|((first|refine bO th J J J J J J J J J k _ J hx ?_|refine iI GM [] J J J J ⟨rfl,rfl,rfl,trivial⟩ ⟨rfl,rfl,rfl,rfl,rfl⟩ (fun _=>⟨rfl,rfl,rfl,rfl,rfl,rfl,rfl⟩) (fun _=>rfl) (fun _=>rfl) J J J (fun _ _=>?_)|refine bH J J J J J J (by omega) ?_);refine ao th J ?_))
   all_goals first
    |(have UA:¬(y1,y2)=(s1,s2):=by
       intro e;injection e with e1 e2;subst e1 e2;revert hb;simp;done
      have o3:near.any (fun x=>decide (bc p role x≠bc p role x0))=true:=cw.2 ⟨near[k],an bj,by rw[hy,hs];exact decide_eq_true UA⟩
      refine xh 4 2 (fM []) J J (.nil 4) ?_
      unfold tX
      rw[Jv cV o3]
      exact gq (hd:=hd) th Tryz.func56 v (.inr ⟨_,rfl⟩) J J J J ⟨rfl,rfl,rfl,trivial⟩ rfl rfl rfl trivial)
    |(have ZE:(y1,y2)=(s1,s2):=by
       have e1:y1=s1:=by simpa using(show(y1 !=s1)=false by assumption)
       have e2:y2=s2:=by assumption
       rw[e1,e2]
      have cT:=ih (k+1) ⟨bj,by rw[BE,hy,hs];exact decide_eq_false fun h=>h ZE⟩ (by omega)
      exact aS cT)
  rw[show near.take k=near from bC (by omega)]at BI
  clear ih
  repeat'(first|refine aA ?_|(refine aB ?_ ?_<;>first|exact aD|(refine aE ?_;intro hb))|fail)
  clear hk
  refine bE (fun k:Nat=>k≤near.length)
   (fun k=>[(0,.v (.one (.ptr given 0))),(1,.v (C1 (ch near))),(4,.v (.one (.ptr 4 0))),(5,.v (C1 (.int .i64 0))),(6,.v (C1 (.bool s1))),(12,.v (.one (.ptr 12 0))),(13,.v (C1 (bL (dK p (near.take k))))),(68,.v (C1 (ch near))),(69,.v (C1 (.int .i64 (near.length:Int)))),(70,.v (C1 (.int .i64 (k:Int))))])
   (fun _=>(12,.box [.c (.int .i64 2),.c (.str s2),.c .bA])::(4,Jm)::kN p role v S)
   (fun k=>near.length - k) 0 (aF _)
   (aH (h1:=by exact⟨⟨_,rfl,.refl _⟩,⟨_,rfl,.refl _⟩,⟨_,rfl,.refl _⟩,⟨_,rfl,.refl _⟩,⟨_,rfl,.refl _⟩,⟨_,rfl,.refl _⟩,⟨_,rfl,.v (.one (.c (.nil 1)))⟩,⟨_,rfl,.refl _⟩,⟨_,rfl,eM (by simp)⟩,⟨_,rfl,eM J⟩,trivial⟩)) (fun k hk ih=>?_)
  by_cases bj:k < near.length
  ·have hx:(near.map fun r=>[CT.int .i64 r])[k]? =some [.int .i64 near[k]]:=by simp[bj]
   have yo:=od _ (an bj)
   have wX:=lf yo
   have RJ:(aM p near[k]).ax.length≤6:=by
    rcases fB hv near[k]with h1|h1
    ·rw[h1];simp
    ·exact(dx h1).1.2
   have Iw:=zB (aM p near[k]) RJ
   have nw:=zz hv near[k]
   have hA:=xR hv (p:=p) (near:=near) k
   have BE:=Ad (p:=p) bj
   obtain⟨q,hq⟩:∃q,q=aM p near[k]:=⟨_,rfl⟩
   obtain⟨A,OZ⟩:∃A,A=dK p (near.take k):=⟨_,rfl⟩
   rw[←hq]at wX Iw nw BE
   rw[←OZ]at hA BE⊢
   have cT:=ih (k+1) bj (by omega)
   rw[BE]at cT
   repeat'(first|refine aA ?_|(refine aB ?_ ?_<;>first|exact aD|(refine aE ?_;intro hb))|((first|refine bO th J J J J J J J J J k _ J hx ?_|refine bO th J J J J J J J J J near[k].toNat _ (by omega) wX ?_|refine aR Iw [] J J J J J J J J J J ?_);refine ao th J ?_))
   obtain⟨lb,Zr⟩:∃lb,lb=dF q:=⟨_,rfl⟩
   rw[←Zr]at cT nw⊢
   refine bE (fun j:Nat=>j≤lb.length)
    (fun j=>[(0,.v (.one (.ptr given 0))),(1,.v (C1 (ch near))),(4,.v (.one (.ptr 4 0))),(5,.v (C1 (.int .i64 0))),(6,.v (C1 (.bool s1))),(12,.v (.one (.ptr 12 0))),(13,.v (C1 (bL ((lb.take j).foldl j2 A)))),(68,.v (C1 (ch near))),(69,.v (C1 (.int .i64 (near.length:Int)))),(70,.v (C1 (.int .i64 (k:Int)))),
      (82,.v (C1 (bL lb))),(83,.v (C1 (.int .i64 (lb.length:Int)))),(84,.v (C1 (.int .i64 (j:Int))))])
    (fun _=>(12,.box [.c (.int .i64 2),.c (.str s2),.c .bA])::(4,Jm)::kN p role v S)
    (fun j=>lb.length - j) 0 (aF _)
    aH (fun j hj n9=>?_)
   by_cases IB:j < lb.length
   ·have RH:(lb.map fun s=>[CT.str s])[j]? =some [.str lb[j]]:=by simp[IB]
    have ZC:=o7 (lb.take j) A
    rw[aO]at ZC
    have kK:=Ka ((lb.take j).foldl j2 A) lb[j] (by omega)
    have ji:=n9 (j+1) IB (by omega)
    rw[show(lb.take (j+1)).foldl j2 A=j2 ((lb.take j).foldl j2 A) lb[j] by rw[al IB,ee];rfl]at ji
    repeat'(first|refine aA ?_|(refine aB ?_ ?_<;>first|exact aD|(refine aE ?_;intro hb))|((first|refine bO th J J J J J J J J J j _ J RH ?_|refine aR kK [] J J J J J J J J J J ?_|refine bH J J J J J J (by omega) ?_);refine ao th J ?_))
    exact aS ji
   ·rw[show lb.take j=lb from bC (by omega)]
    repeat'(first|refine aA ?_|(refine aB ?_ ?_<;>first|exact aD|(refine aE ?_;intro hb))|(refine bH J J J J J J (by omega) ?_;refine ao th J ?_))
    exact aS cT
  have hA:=xR hv (p:=p) (near:=near) near.length
  rw[bq]at hA
  rw[show near.take k=near from bC (by omega)]
  clear ih hk
  obtain⟨A,OZ⟩:∃A,A=dK p near:=⟨_,rfl⟩
  rw[←OZ]at hA⊢
  repeat'((fail_if_success refine o6 22 J ?_);first|refine aA ?_|(refine aB ?_ ?_<;>first|exact aD|(refine aE ?_;intro hb))|fail)
  refine LW ((s1&&near.any (fun x=>decide (dF (aM p x)≠A)))=false)
   [(0,.v (.one (.ptr given 0))),(1,.v (C1 (ch near))),(4,.v (.one (.ptr 4 0))),(5,.v (C1 (.int .i64 0))),(12,.v (.one (.ptr 12 0))),(13,.v (C1 (bL A)))]
   ((12,.box [.c (.int .i64 (kindOf s1)),.c (.str s2),.c .bA])::(4,Jm)::kN p role v S) J (fun Wz=>?_) (fun M5=>?_)
  ·have Le:((bc p role x0).1&&near.any (fun x=>decide (dF (aM p x)≠dK p near)))=false:=by rw[hs,←OZ];exact Wz
   obtain⟨kd,RZ⟩:∃kd,kd=kindOf s1:=⟨_,rfl⟩
   rw[←RZ]
   repeat'(first|refine aA ?_|(refine aB ?_ ?_<;>first|exact aD|(refine aE ?_;intro hb))|fail)
   ·refine xh 4 2 (fM []) J J (.nil 4) ?_
    unfold tX
    rw[Eh cV BI Le (by rw[←OZ];omega)]
    exact gq (hd:=hd) th Tryz.func56 v (.inr ⟨_,rfl⟩) J J J J ⟨rfl,rfl,rfl,trivial⟩ rfl rfl rfl trivial
   have Yy:¬6 < (dK p near).length:=by rw[←OZ];omega
   refine lh 300 3 1 J J ?_
   refine fz (fun(k:Nat) (s:lS×nT)=>k≤near.length∧xZ (cr p (near.take k)) s.1 s.2)
    (fun k _=>[(0,.v (.one (.ptr given 0))),(1,.v (C1 (ch near))),(4,.v (.one (.ptr 4 0))),(5,.v (C1 (.int .i64 0))),(12,.v (.one (.ptr 12 0))),(13,.v (C1 (bL A))),(20,.v (.one (.mp 119))),(21,.v (.one (.mp 120))),(121,.v (C1 (ch near))),(122,.v (C1 (.int .i64 (near.length:Int)))),(123,.v (C1 (.int .i64 (k:Int))))])
    (fun _ s=>YD p role v S kd s2 s.1 s.2)
    (fun k _=>near.length - k) 0 ([],[]) ⟨aF _,xZ.nil⟩
    aH (fun k s hk ih=>?_)
   obtain⟨cm,xm⟩:=s
   obtain⟨hk,hG⟩:=hk
   simp only at hG⊢
   by_cases Lu:k < near.length
   ·have hx:(near.map fun r=>[CT.int .i64 r])[k]? =some [.int .i64 near[k]]:=by simp[Lu]
    have yo:=od _ (an Lu)
    have wX:=lf yo
    have RJ:(aM p near[k]).ax.length≤6:=by
     rcases fB hv near[k]with h1|h1
     ·rw[h1];simp
     ·exact(dx h1).1.2
    have yp:=fun j=>DQ (p:=p) (j:=j) Lu
    have cT:=fun s h=>ih (k+1) s ⟨Lu,h⟩ (by omega)
    rw[xM Lu]at cT
    obtain⟨q,hq⟩:∃q,q=aM p near[k]:=⟨_,rfl⟩
    rw[←hq]at wX RJ yp cT
    repeat'(first|refine aA ?_|(refine aB ?_ ?_<;>first|exact aD|(refine aE ?_;intro hb))|((first|refine bO th J J J J J J J J J k _ J hx ?_|refine bO th J J J J J J J J J near[k].toNat _ (by omega) wX ?_);refine ao th J ?_))
    refine fz (fun(j:Nat) (s:lS×nT)=>j≤q.ax.length∧xZ (cr p (near.take k)++q.ax.take j) s.1 s.2)
     (fun j _=>[(0,.v (.one (.ptr given 0))),(1,.v (C1 (ch near))),(4,.v (.one (.ptr 4 0))),(5,.v (C1 (.int .i64 0))),(12,.v (.one (.ptr 12 0))),(13,.v (C1 (bL A))),(20,.v (.one (.mp 119))),(21,.v (.one (.mp 120))),(121,.v (C1 (ch near))),(122,.v (C1 (.int .i64 (near.length:Int)))),(123,.v (C1 (.int .i64 (k:Int)))),
       (135,.v (C1 (fM q.ax))),(136,.v (C1 (.int .i64 (q.ax.length:Int)))),(137,.v (C1 (.int .i64 (j:Int))))])
     (fun _ s=>YD p role v S kd s2 s.1 s.2)
     (fun j _=>q.ax.length - j) 0 (cm,xm) ⟨aF _,by rw[List.take_zero,et];exact hG⟩
     aH (fun j s hj n9=>?_)
    clear hG
    obtain⟨yy,pv⟩:=s
    obtain⟨hj,hG⟩:=hj
    simp only at hG⊢
    by_cases IB:j < q.ax.length
    ·have RH:(q.ax.map bD.cs)[j]? =some (q.ax[j]).cs:=by simp[IB]
     obtain⟨rest,yp⟩:=yp j IB
     obtain⟨a,ha⟩:∃a,a=q.ax[j]:=⟨_,rfl⟩
     rw[←ha]at yp RH
     have Z8:∀vx,(gz yy a.label=none∨gz yy a.label=some (a.kind,a.name))→xZ (cr p (near.take k)++q.ax.take (j+1)) (og yy a.label (a.kind,a.name)) (ou pv a.label vx a.next):=by
      intro vx zF
      rw[al IB,←bf,←ha]
      exact hG.step a zF vx
     have hnxl:(kW pv a.label).length≤200:=by
      rw[hG.Vz]
      have h1:=zn (cr p (near.take k)++q.ax.take j) a.label
      have h2:=tM hv (near.take k)
      rw[au,aO]at h1
      rw[aO]at h2
      omega
     have ji:=fun(vx:Value) (zF:gz yy a.label=none∨gz yy a.label=some (a.kind,a.name))=>n9 (j+1) (og yy a.label (a.kind,a.name),ou pv a.label vx a.next) ⟨IB,Z8 vx zF⟩ (by omega)
     cases uV:gz yy a.label with
     |none=>
      have XB:(gz yy a.label).isSome=false:=by rw[uV];rfl
      repeat'((fail_if_success refine o6 44 J ?_);first|refine aA ?_|(refine aB ?_ ?_<;>first|exact aD|(refine aE ?_;intro hb))|((first|refine bO th J J J J J J J J J j _ J RH ?_|(refine yV th J J J J J J J J J J ?_;rw[XB])|refine JK th (.inl rfl) J J J J J J J J ?_);refine ao th J ?_))
      have zF:gz yy a.label=none∨gz yy a.label=some (a.kind,a.name):=.inl uV
      refine aS (tm':=[(0,.v (.one (.ptr given 0))),(1,.v (C1 (ch near))),(4,.v (.one (.ptr 4 0))),(5,.v (C1 (.int .i64 0))),(12,.v (.one (.ptr 12 0))),(13,.v (C1 (bL A))),(20,.v (.one (.mp 119))),(21,.v (.one (.mp 120))),(25,.v (.one (.ptr 25 0))),(121,.v (C1 (ch near))),(122,.v (C1 (.int .i64 (near.length:Int)))),(123,.v (C1 (.int .i64 (k:Int)))),(135,.v (C1 (fM q.ax))),(136,.v (C1 (.int .i64 (q.ax.length:Int)))),(137,.v (C1 (.int .i64 (j:Int))))]) (mm':=(119,.fw (dI iC (kH pv)))::(300,.bF 3 1 (gh pv))::[(25,.box [.c (.str a.label),.c (.int .i64 a.kind),.c (.str a.name),.c (.int .i64 a.next)]),(120,.fw (qj (og yy a.label (a.kind,a.name)))),(12,.box [.c (.int .i64 kd),.c (.str s2),.c .bA]),(4,.box [.c (.int .i64 0),.c (.str ⟨#[]⟩),.c .bA]),(given,.box (mj p role v)),(given+1,oQ S),(1,.bF 22 1 [(v,jO S)])]) ?_
      rcases Bl pv a.label with⟨c0,v0,f1,f2,f3⟩|⟨f1,f2,f3⟩
      ·skip
       refine se (ι:=Value) [10,11] [300] Gk (Vw [(25,.box [.c (.str a.label),.c (.int .i64 a.kind),.c (.str a.name),.c (.int .i64 a.next)]),(120,.fw (qj (og yy a.label (a.kind,a.name)))),(12,.box [.c (.int .i64 kd),.c (.str s2),.c .bA]),(4,.box [.c (.int .i64 0),.c (.str ⟨#[]⟩),.c .bA]),(given,.box (mj p role v)),(given+1,oQ S),(1,.bF 22 1 [(v,jO S)])] (dI iC (kH pv)) (fun v=>dI iC (iq (kH pv) a.label (.val v))) (gh pv) (fun v=>(gh pv).set c0 (v,gS (kW pv a.label)++[[.int .i64 a.next]]))) (.slice none 0 0) mix J (fun k x hk=>by match k,hk with|0,_|1,_=>(refine e6 ?_;repeat (first|exact trivial|refine⟨rfl,?_⟩))) J (fun k x=>by match k with|0|1|_+2=>rfl) J J (by simp) J J ?_
       refine iY th J ?_
       refine vt th J J J J J J J J J J J v0 (.inl f1) ?_
       refine iY th J ?_
       refine G5 th J J J J J J J J J J J J J (.refl _) ?_
       refine iY th J ?_
       refine FOps.nil ⟨gY.cons rfl (fun x=>?_) (gY.cons rfl (fun x=>?_) gY.nil),fun v'=>?_⟩
       ·exact ng (i:=300) th J J J J J J J J J J J J J J J J c0 f2 (by constructor<;>simp<;>omega) (fun v'=>v') (fun _=>rfl) (fun _=>rfl)
       ·exact vv th (.inl rfl) J J J J J J J J J J
       have uW:=ji v' zF
       repeat'(first|refine aA ?_|(refine aB ?_ ?_<;>first|exact aD|(refine aE ?_;intro hb))|(refine bH J J J J J J (by omega) ?_;refine ao th J ?_))
       exact aS (h2:=by exact⟨⟨_,rfl,tc (by rw[rC])⟩,⟨_,rfl,.refl _⟩,⟨_,rfl,r6 (f3 v' a.next).symm⟩,⟨_,rfl,.refl _⟩,⟨_,rfl,.refl _⟩,⟨_,rfl,.refl _⟩,⟨_,rfl,.refl _⟩,⟨_,rfl,.refl _⟩,trivial⟩) uW
      ·skip
       refine j8 300 J J J J ?_
       refine se (ι:=Value) [10,11] [300] Gk (Vw [(25,.box [.c (.str a.label),.c (.int .i64 a.kind),.c (.str a.name),.c (.int .i64 a.next)]),(120,.fw (qj (og yy a.label (a.kind,a.name)))),(12,.box [.c (.int .i64 kd),.c (.str s2),.c .bA]),(4,.box [.c (.int .i64 0),.c (.str ⟨#[]⟩),.c .bA]),(given,.box (mj p role v)),(given+1,oQ S),(1,.bF 22 1 [(v,jO S)])] (dI iC (kH pv)) (fun v=>dI iC (iq (kH pv) a.label (.val v))) (gh pv++[(Value.slice none 0 0,[])]) (fun v=>(gh pv++[(Value.slice none 0 0,[])]).set pv.length (v,[[.int .i64 a.next]]))) (.slice none 0 0) mix J (fun k x hk=>by match k,hk with|0,_|1,_=>(refine e6 ?_;repeat (first|exact trivial|refine⟨rfl,?_⟩))) J (fun k x=>by match k with|0|1|_+2=>rfl) J J (by simp) J J ?_
       refine iY th J ?_
       refine vt th J J J J J J J J J J J (.slice none 0 0) (.inr ⟨f1,rfl⟩) ?_
       refine iY th J ?_
       refine G5 th J J J J J J J J J J J J J (.refl _) ?_
       refine iY th J ?_
       refine FOps.nil ⟨gY.cons rfl (fun x=>?_) (gY.cons rfl (fun x=>?_) gY.nil),fun v'=>?_⟩
       ·exact ng (i:=300) th J J J J J J J J J J J J J J J J pv.length (by rw[←za pv];exact qC) (by constructor<;>simp<;>omega) (fun v'=>v') (fun _=>rfl) (fun _=>rfl)
       ·exact vv th (.inl rfl) J J J J J J J J J J
       have uW:=ji v' zF
       repeat'(first|refine aA ?_|(refine aB ?_ ?_<;>first|exact aD|(refine aE ?_;intro hb))|(refine bH J J J J J J (by omega) ?_;refine ao th J ?_))
       exact aS (h2:=by exact⟨⟨_,rfl,tc (by rw[rC])⟩,⟨_,rfl,.refl _⟩,⟨_,rfl,r6 (f3 v' a.next).symm⟩,⟨_,rfl,.refl _⟩,⟨_,rfl,.refl _⟩,⟨_,rfl,.refl _⟩,⟨_,rfl,.refl _⟩,⟨_,rfl,.refl _⟩,trivial⟩) uW
     |some c=>
      obtain⟨c1,c2⟩:=c
      have XB:(gz yy a.label).isSome=true:=by rw[uV];rfl
      have hDe:jz yy a.label=(c1,c2):=by unfold jz;rw[uV];rfl
      repeat'((fail_if_success refine o6 44 J ?_);first|refine aA ?_|(refine aB ?_ ?_<;>first|exact aD|(refine aE ?_;intro hb))|((first|refine bO th J J J J J J J J J j _ J RH ?_|(refine yV th J J J J J J J J J J ?_;rw[XB,hDe])|refine Nt J J J J J J J ?_|refine JK th (.inl rfl) J J J J J J J J ?_);refine ao th J ?_))
      ·have fQ:=hG.Vf a uV (by intro e;revert hb;simp[←e];done) rest
       rw[←yp]at fQ
       refine xh 4 2 (fM []) J J (.nil 4) ?_
       unfold tX
       rw[Ej cV BI Le Yy fQ]
       exact gq (hd:=hd) th Tryz.func56 v (.inr ⟨_,rfl⟩) J J J J ⟨rfl,rfl,rfl,trivial⟩ rfl rfl rfl trivial
      all_goals try(exfalso;revert hb;simp;done)
      have zF:gz yy a.label=none∨gz yy a.label=some (a.kind,a.name):=.inr (by rw[uV];exact congrArg some (by simpa using hb))
      refine aS (tm':=[(0,.v (.one (.ptr given 0))),(1,.v (C1 (ch near))),(4,.v (.one (.ptr 4 0))),(5,.v (C1 (.int .i64 0))),(12,.v (.one (.ptr 12 0))),(13,.v (C1 (bL A))),(20,.v (.one (.mp 119))),(21,.v (.one (.mp 120))),(25,.v (.one (.ptr 25 0))),(121,.v (C1 (ch near))),(122,.v (C1 (.int .i64 (near.length:Int)))),(123,.v (C1 (.int .i64 (k:Int)))),(135,.v (C1 (fM q.ax))),(136,.v (C1 (.int .i64 (q.ax.length:Int)))),(137,.v (C1 (.int .i64 (j:Int))))]) (mm':=(119,.fw (dI iC (kH pv)))::(300,.bF 3 1 (gh pv))::[(25,.box [.c (.str a.label),.c (.int .i64 a.kind),.c (.str a.name),.c (.int .i64 a.next)]),(120,.fw (qj (og yy a.label (a.kind,a.name)))),(12,.box [.c (.int .i64 kd),.c (.str s2),.c .bA]),(4,.box [.c (.int .i64 0),.c (.str ⟨#[]⟩),.c .bA]),(given,.box (mj p role v)),(given+1,oQ S),(1,.bF 22 1 [(v,jO S)])]) ?_
      rcases Bl pv a.label with⟨c0,v0,f1,f2,f3⟩|⟨f1,f2,f3⟩
      ·skip
       refine se (ι:=Value) [10,11] [300] Gk (Vw [(25,.box [.c (.str a.label),.c (.int .i64 a.kind),.c (.str a.name),.c (.int .i64 a.next)]),(120,.fw (qj (og yy a.label (a.kind,a.name)))),(12,.box [.c (.int .i64 kd),.c (.str s2),.c .bA]),(4,.box [.c (.int .i64 0),.c (.str ⟨#[]⟩),.c .bA]),(given,.box (mj p role v)),(given+1,oQ S),(1,.bF 22 1 [(v,jO S)])] (dI iC (kH pv)) (fun v=>dI iC (iq (kH pv) a.label (.val v))) (gh pv) (fun v=>(gh pv).set c0 (v,gS (kW pv a.label)++[[.int .i64 a.next]]))) (.slice none 0 0) mix J (fun k x hk=>by match k,hk with|0,_|1,_=>(refine e6 ?_;repeat (first|exact trivial|refine⟨rfl,?_⟩))) J (fun k x=>by match k with|0|1|_+2=>rfl) J J (by simp) J J ?_
       refine iY th J ?_
       refine vt th J J J J J J J J J J J v0 (.inl f1) ?_
       refine iY th J ?_
       refine G5 th J J J J J J J J J J J J J (.refl _) ?_
       refine iY th J ?_
       refine FOps.nil ⟨gY.cons rfl (fun x=>?_) (gY.cons rfl (fun x=>?_) gY.nil),fun v'=>?_⟩
       ·exact ng (i:=300) th J J J J J J J J J J J J J J J J c0 f2 (by constructor<;>simp<;>omega) (fun v'=>v') (fun _=>rfl) (fun _=>rfl)
       ·exact vv th (.inl rfl) J J J J J J J J J J
       have uW:=ji v' zF
       repeat'(first|refine aA ?_|(refine aB ?_ ?_<;>first|exact aD|(refine aE ?_;intro hb))|(refine bH J J J J J J (by omega) ?_;refine ao th J ?_))
       exact aS (h2:=by exact⟨⟨_,rfl,tc (by rw[rC])⟩,⟨_,rfl,.refl _⟩,⟨_,rfl,r6 (f3 v' a.next).symm⟩,⟨_,rfl,.refl _⟩,⟨_,rfl,.refl _⟩,⟨_,rfl,.refl _⟩,⟨_,rfl,.refl _⟩,⟨_,rfl,.refl _⟩,trivial⟩) uW
      ·skip
       refine j8 300 J J J J ?_
       refine se (ι:=Value) [10,11] [300] Gk (Vw [(25,.box [.c (.str a.label),.c (.int .i64 a.kind),.c (.str a.name),.c (.int .i64 a.next)]),(120,.fw (qj (og yy a.label (a.kind,a.name)))),(12,.box [.c (.int .i64 kd),.c (.str s2),.c .bA]),(4,.box [.c (.int .i64 0),.c (.str ⟨#[]⟩),.c .bA]),(given,.box (mj p role v)),(given+1,oQ S),(1,.bF 22 1 [(v,jO S)])] (dI iC (kH pv)) (fun v=>dI iC (iq (kH pv) a.label (.val v))) (gh pv++[(Value.slice none 0 0,[])]) (fun v=>(gh pv++[(Value.slice none 0 0,[])]).set pv.length (v,[[.int .i64 a.next]]))) (.slice none 0 0) mix J (fun k x hk=>by match k,hk with|0,_|1,_=>(refine e6 ?_;repeat (first|exact trivial|refine⟨rfl,?_⟩))) J (fun k x=>by match k with|0|1|_+2=>rfl) J J (by simp) J J ?_
       refine iY th J ?_
       refine vt th J J J J J J J J J J J (.slice none 0 0) (.inr ⟨f1,rfl⟩) ?_
       refine iY th J ?_
       refine G5 th J J J J J J J J J J J J J (.refl _) ?_
       refine iY th J ?_
       refine FOps.nil ⟨gY.cons rfl (fun x=>?_) (gY.cons rfl (fun x=>?_) gY.nil),fun v'=>?_⟩
       ·exact ng (i:=300) th J J J J J J J J J J J J J J J J pv.length (by rw[←za pv];exact qC) (by constructor<;>simp<;>omega) (fun v'=>v') (fun _=>rfl) (fun _=>rfl)
       ·exact vv th (.inl rfl) J J J J J J J J J J
       have uW:=ji v' zF
       repeat'(first|refine aA ?_|(refine aB ?_ ?_<;>first|exact aD|(refine aE ?_;intro hb))|(refine bH J J J J J J (by omega) ?_;refine ao th J ?_))
       exact aS (h2:=by exact⟨⟨_,rfl,tc (by rw[rC])⟩,⟨_,rfl,.refl _⟩,⟨_,rfl,r6 (f3 v' a.next).symm⟩,⟨_,rfl,.refl _⟩,⟨_,rfl,.refl _⟩,⟨_,rfl,.refl _⟩,⟨_,rfl,.refl _⟩,⟨_,rfl,.refl _⟩,trivial⟩) uW
    ·rw[show q.ax.take j=q.ax from bC (by omega)]at hG
     have uW:=cT (yy,pv) hG
     repeat'(first|refine aA ?_|(refine aB ?_ ?_<;>first|exact aD|(refine aE ?_;intro hb))|(refine bH J J J J J J (by omega) ?_;refine ao th J ?_))
     exact aS uW
   ·rw[show near.take k=near from bC (by omega)]at hG
    clear ih
    obtain⟨arr,qi⟩:∃arr,arr=cr p near:=⟨_,rfl⟩
    have hal2:=tM hv near
    have BG:∀s,(∀x∈df arr s,0≤x∧x < (p.points.length:Int))∧(df arr s).length≤1000:=fun s=>by
     have h1:=zn arr s
     rw[qi]at h1⊢
     exact⟨CB hv,by omega⟩
    have Tq:=Hy (S:=S) cV BI Le Yy (by have:=hG.ok;exact this)
    rw[←qi]at hG Tq
    rw[hs,←OZ]at Tq
    have hA66:A.length≤6:=by rw[OZ];omega
    have ZX:di p role arr A [] S=di p role arr (A.drop 0) [] S:=rfl
    repeat'(first|refine aA ?_|(refine aB ?_ ?_<;>first|exact aD|(refine aE ?_;intro hb))|fail)
    refine IG 300 119 J J J J J J ?_
    refine kv 12 2 290 34 4 J J J J ?_
    refine fz (fun(k:Nat) (s:List bD×List (List Int)×Value)=>k≤A.length∧s.1.length≤k∧po p s.2.1∧di p role arr A [] S=di p role arr (A.drop k) s.1 s.2.1)
     (fun k _=>[(0,.v (.one (.ptr given 0))),(4,.v (.one (.ptr 4 0))),(5,.v (C1 (.int .i64 0))),(12,.v (.one (.ptr 12 0))),(20,.v (.one (.mp 119))),(21,.v (.one (.mp 120))),(174,.v (C1 (bL A))),(175,.v (C1 (.int .i64 (A.length:Int)))),(176,.v (C1 (.int .i64 (k:Int))))])
     (fun _ s=>[(290,.arr false 34 4 (s.1.map bD.cs)),(12,.box [.c (.int .i64 kd),.c (.str s2),.own 290]),(4,.box [.c (.int .i64 0),.c (.str ⟨#[]⟩),.c .bA]),(119,.fw (dI iC (uY xm))),(120,.fw (qj cm)),
       (given,.box (mj p role s.2.2)),(given+1,oQ s.2.1),(1,.bF 22 1 [(s.2.2,jO s.2.1)])])
     (fun k _=>A.length - k) 0 ([],S,v) ⟨aF _,ay _,hS,ZX⟩
     aH (fun k s hk ih=>?_)
    obtain⟨out,S1,v1⟩:=s
    obtain⟨hk,RU,Xv,cZ⟩:=hk
    simp only at RU Xv cZ⊢
    by_cases RX:k < A.length
    ·have hx:(A.map fun s=>[CT.str s])[k]? =some [.str A[k]]:=by simp[RX]
     have hle:=Dt xm A[k]
     rw[hG.Vz]at hle
     have Sc:jz cm A[k]=kc arr A[k]:=by unfold jz kc;rw[hG.TJ]
     have jS:=KT p hv hB role hh v1 S1 Xv (df arr A[k]) (BG _).1 (BG _).2
     have Ys:=Xv.look hv role (df arr A[k])
     rw[cX RX,di]at cZ
     obtain⟨⟨⟨i2,e2⟩,S2⟩,hL⟩:∃L,L=cp p role S1 (df arr A[k]):=⟨_,rfl⟩
     unfold GB at jS
     simp only[←hL]at jS Ys cZ
     have cT:=fun(h0:e2=0) v2=>ih (k+1) (out++[⟨A[k],(kc arr A[k]).1,(kc arr A[k]).2,i2⟩],S2,v2) ⟨RX,by simp;omega,Ys,by rw[cZ,if_pos h0]⟩ (by omega)
     have Di:=fun(h0:¬e2=0)=>(show di p role arr A [] S=(([],e2),S2) by rw[cZ,if_neg h0])
     clear ih cZ
     obtain⟨sk,Zd⟩:∃sk,sk=A[k]:=⟨_,rfl⟩
     rw[←Zd]at hx hle Sc jS cT
     obtain⟨cc,ZK⟩:∃cc,cc=kc arr sk:=⟨_,rfl⟩
     rw[←ZK]at Sc cT
     obtain⟨nx,WN⟩:∃nx,nx=df arr sk:=⟨_,rfl⟩
     rw[←WN]at hle jS
     repeat'(first|refine aA ?_|(refine aB ?_ ?_<;>first|exact aD|(refine aE ?_;intro hb))|((first|refine bO th J J J J J J J J J k _ J hx ?_|(refine vc th (m:=uY xm) J J J J J J J J J J J J ?_;refine B1 184 (.v (C1 (ch nx))) J (.v (.one (.c hle))) ?_)|refine iI jS [] J J J J ⟨rfl,rfl,rfl,trivial⟩ ⟨rfl,rfl,rfl,rfl,rfl⟩ (fun _=>⟨rfl,rfl,rfl,rfl,rfl,rfl,rfl⟩) (fun _=>rfl) (fun _=>rfl) J J J (fun v2 _=>?_)|(refine Nv th J J J J J J J J J J ?_;rw[Sc]));refine ao th J ?_)|(refine nB 12 2 J ?_;refine eo th J J J J J J J J J J J J J J J (by constructor<;>simp<;>omega) ?_;refine ao th J ?_)|(refine bH J J J J J J (by omega) ?_;refine ao th J ?_))
     ·have he:=Di (by assumption)
      rw[he,if_neg (by assumption)]at Tq
      refine xh 4 2 (fM []) J J (.nil 4) ?_
      unfold tX
      rw[Tq]
      exact gq (hd:=hd) th Tryz.func56 v2 (.inr ⟨_,rfl⟩) J J J J ⟨rfl,rfl,rfl,trivial⟩ rfl rfl rfl trivial
     ·exact aS (h2:=by exact⟨⟨_,rfl,fE (by simp)⟩,⟨_,rfl,.refl _⟩,⟨_,rfl,.refl _⟩,⟨_,rfl,.refl _⟩,⟨_,rfl,.refl _⟩,⟨_,rfl,.refl _⟩,⟨_,rfl,.refl _⟩,⟨_,rfl,.refl _⟩,trivial⟩) (cT (by assumption) v2)
    ·rw[jf (by omega),di]at cZ
     clear ih
     rw[cZ,if_pos J,←RZ]at Tq
     repeat'(first|(refine dY 290 J J ?_)|refine aA ?_|(refine aB ?_ ?_<;>first|exact aD|(refine aE ?_;intro hb))|fail)
     unfold tX
     rw[Tq]
     exact gq (hd:=hd) th Tryz.func56 v1 (.inr ⟨_,rfl⟩) J J J J ⟨rfl,rfl,rfl,trivial⟩ rfl rfl rfl trivial
  ·skip
   repeat'((fail_if_success refine o6 30 J ?_);first|refine aA ?_|(refine aB ?_ ?_<;>first|exact aD|(refine aE ?_;intro hb))|fail)
   ·have MZ:s1=true:=hb
    rw[MZ,bZ]at M5
    refine bE (fun k:Nat=>k≤near.length∧(near.take k).any (fun x=>decide (dF (aM p x)≠A))=false)
     (fun k=>[(0,.v (.one (.ptr given 0))),(1,.v (C1 (ch near))),(4,.v (.one (.ptr 4 0))),(5,.v (C1 (.int .i64 0))),(12,.v (.one (.ptr 12 0))),(13,.v (C1 (bL A))),(95,.v (C1 (ch near))),(96,.v (C1 (.int .i64 (near.length:Int)))),(97,.v (C1 (.int .i64 (k:Int))))])
     (fun _=>(12,.box [.c (.int .i64 1),.c (.str s2),.c .bA])::(4,Jm)::kN p role v S)
     (fun k=>near.length - k) 0 ⟨aF _,rfl⟩
     aH (fun k hk ih=>?_)
    obtain⟨hk,Sj⟩:=hk
    by_cases Lv:k < near.length
    ·have hx:(near.map fun r=>[CT.int .i64 r])[k]? =some [.int .i64 near[k]]:=by simp[Lv]
     have yo:=od _ (an Lv)
     have wX:=lf yo
     have RJ:(aM p near[k]).ax.length≤6:=by
      rcases fB hv near[k]with h1|h1
      ·rw[h1];simp
      ·exact(dx h1).1.2
     have Iw:=zB (aM p near[k]) RJ
     have heq:=L5 (dF (aM p near[k])) A
     have BE:=p8 Lv (fun x=>decide (dF (aM p x)≠A))
     rw[Sj,gZ]at BE
     repeat'(first|refine aA ?_|(refine aB ?_ ?_<;>first|exact aD|(refine aE ?_;intro hb))|((first|refine bO th J J J J J J J J J k _ J hx ?_|refine bO th J J J J J J J J J near[k].toNat _ (by omega) wX ?_|refine aR Iw [] J J J J J J J J J J ?_|refine aR heq [] J J J J J J J J J J ?_|refine bH J J J J J J (by omega) ?_);refine ao th J ?_))
     all_goals first
      |(have Uy:dF (aM p near[k])≠A:=by intro e;revert hb;simp[e];done
        have o3:((bc p role x0).1&&near.any (fun x=>decide (dF (aM p x)≠dK p near)))=true:=by
         rw[hs,MZ,bZ,←OZ];exact cw.2 ⟨near[k],an Lv,decide_eq_true Uy⟩
        refine xh 4 2 (fM []) J J (.nil 4) ?_
        unfold tX
        rw[Hx cV BI o3]
        exact gq (hd:=hd) th Tryz.func56 v (.inr ⟨_,rfl⟩) J J J J ⟨rfl,rfl,rfl,trivial⟩ rfl rfl rfl trivial)
      |(have cT:=ih (k+1) ⟨Lv,by rw[BE];exact decide_eq_false fun h=>h (by simpa using hb)⟩ (by omega)
        exact aS cT)
    ·rw[show near.take k=near from bC (by omega)]at Sj
     repeat'((fail_if_success refine o6 30 J ?_);first|refine aA ?_|(refine aB ?_ ?_<;>first|exact aD|(refine aE ?_;intro hb))|fail)
     exact aS (M5 Sj)
   ·have MZ:s1=false:=hb
    subst MZ
    exact aS (M5 J)
end Go.Sy
