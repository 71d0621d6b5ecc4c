/- Contracts: project's look. -/
import Derived.Test.YtdjocfajcbhmgaaGreatDoorAu
import Derived.Test.YtdjocfajcbhmgaaGreatDoorZ18
set_option maxHeartbeats 64000000
set_option linter.unusedSimpArgs false
set_option linter.unusedVariables false
set_option linter.unusedSectionVars false
namespace Go.Sy
open Go.Proofs
set_option maxRecDepth 100000
attribute [local irreducible] SOps Goes DOps EOps FOps GOps
section
variable {C:Ctx} {n:Nat} {tm cq:TM} {mm:MM} {L l:List Oper} {T:TM→Prop} {o:Oper} {d:Nat} {x:Operand}
theorem SJ{Θ:da}(bt:a8 C.P Θ){t:TypeId}{z cz e:Nat}{ag:Bool}{zr:Option (List CT)}{e' sz:Nat}{qs:PQ}{v:Value}{xs:List (List CT)}(i c:Nat)
 (ho:o.op=.call {callee:=.builtin .len,args:=#[x],argTypes:=#[t]})(ht:aP Θ t=some ⟨z,cz,ag,zr,.slice e⟩)
 (hx:aQ (aX (aI L o) tm) x=some (.c (.val v)))(hi:getM mm i=some (.bF e' sz qs))(hk:qs[c]? =some (v,xs))(hd:o.dst=some d)(hn:Nat.blt d n=true)(hg:aY L (aX (aI L o) tm) o=some true)(m:Int)(hm:(xs.length:Int)=m)
 (k:DOps C n mm L cq l ((d,.v (.one (.c (.int .i64 m))))::bo tm d) T):DOps C n mm L cq (o::l) tm T:=by
 subst hm
 exact mv (Gn bt ho ht hx hi hk hd hn) hg k
end
variable {p:b7} {role:ByteArray} {S:List (List Int)} {set:List Int}
theorem KM{α:Type}[DecidableEq α]{l:List α}{a:α}(h:ks l a=true):a∈l:=by simpa[ks]using h
theorem KS(h:lr p role set=true):cp p role S set=((0,801),S):=by unfold cp;rw[if_pos h]
theorem KQ(h:lr p role set=false)(h1:bV p role set∈S):cp p role S set=((((S.idxOf (bV p role set):Nat):Int),0),S):=by
 unfold cp;rw[h,if_neg (by decide),if_pos h1]
theorem Ib(h:lr p role set=false)(h1:bV p role set∉S)(h2:S.length=40):cp p role S set=((0,805),S):=by
 unfold cp;rw[h,if_neg (by decide),if_neg h1,if_pos h2]
theorem KR(h:lr p role set=false)(h1:bV p role set∉S)(h2:S.length≠40):cp p role S set=(((S.length:Int),0),S++[bV p role set]):=by
 unfold cp;rw[h,if_neg (by decide),if_neg h1,if_neg h2]
theorem nJ(hv:dj p=true)(role:ByteArray)(l:List Int):lD (bV p role l)∧(bV p role l).length≤24∧∀x∈bV p role l,0≤x∧x < (p.points.length:Int):=by
 have mA:=hJ hv
 have hr:∀x∈bV p role l,0≤x∧x < (p.points.length:Int):=fun x hx=>by
  have h1:=(cn.1 hx).1
  obtain⟨k,hk,rfl⟩:=aL.1 h1
  have:=ek.1 hk
  exact⟨Int.natCast_nonneg _,by show((k:Nat):Int) < _;omega⟩
 refine⟨fun x hx=>by have:=hr x hx;omega,?_,hr⟩
 have:=cR (fun x=>decide (x∈fu p role l)&&n5 (aM p x) role) ((List.range p.points.length).map Int.ofNat)
 rw[ak,List.length_range]at this
 show(List.filter _ _).length≤24
 omega
theorem Eg(hv:dj p=true)(role:ByteArray)(l:List Int):(fu p role l).length≤24:=by
 have It:=ju hv
 have h1:=(ss (pC It role) (p.g.length+1) 0 _ (rL p l) (fun j x hj=>by omega) (by omega) (by omega)).1.len
 have mA:=hJ hv
 have Dh:p.g.length=p.points.length:=by simp[b7.g]
 rw[Dh]at h1
 show(lP _ _ _ _).length≤24
 omega
theorem Ru(hv:dj p=true)(hh:hasB p.aW role=true){x:Int}(hx:0≤x∧x < (p.points.length:Int)):Gz p role x=jQ p role x:=by
 unfold Gz jQ;rw[hv,hh,decide_eq_true hx];rfl
theorem p8{α:Type}{l:List α}{k:Nat}(h:k < l.length)(f:α→Bool):(l.take (k+1)).any f=((l.take k).any f||f l[k]):=by
 rw[al h,List.any_append];simp
structure po(p:b7)(S:List (List Int)):Prop where
 Ao:ki S
 small:∀m∈S,lD m
theorem po.look(h:po p S)(hv:dj p=true)(role:ByteArray)(set:List Int):po p (cp p role S set).2:=by
 refine⟨r5 h.Ao set,fun m hm=>?_⟩
 rcases lu (p:=p) (role:=role) S set with⟨_,e⟩|⟨_,_,e⟩|⟨_,_,_,e⟩|⟨_,_,_,e⟩
 ·rw[e]at hm;exact h.small m hm
 ·rw[e]at hm;exact h.small m hm
 ·rw[e]at hm;exact h.small m hm
 ·rw[e]at hm
  rcases aK.1 hm with hm|hm
  ·exact h.small m hm
  ·rw[aq]at hm;subst hm;exact(nJ hv role set).1
abbrev GB(p:b7)(role:ByteArray)(S:List (List Int))(set:List Int):ST:=.fo [C1 (.int .i64 (cp p role S set).1.1),C1 (.int .i64 (cp p role S set).1.2)]
theorem KT(p:b7)(hv:dj p=true)(hB:ix p)(role:ByteArray)(hh:hasB p.aW role=true)(v:Value)(S:List (List Int))(hS:po p S)(set:List Int)(Fi:∀x∈set,0≤x∧x < (p.points.length:Int))(X8:set.length≤1000):
 nV Tryz.prog 55 (kN p role v S) [.one (.ptr given 0),C1 (ch set)] (fun _:Value=>True) (fun _=>GB p role S set) (fun v'=>kN p role v' (cp p role S set).2):=by
 have Qf:=QR p hv role v S set Fi X8
 have Ls:=KF p hB role set
 rw[show CC p role set=bV p role set by unfold CC;rw[hv,hh];rfl]at Ls
 obtain⟨WO,yr,_⟩:=nJ hv role set
 have Iz:=T9 (bV p role set) (by omega) WO
 have ZY:=hS.Ao.len
 have dX:=KZ hS.small WO
 have Jb:=Eg hv role set
 have X2:∀x∈fu p role set,0≤x∧x < (p.points.length:Int):=fun x hx=>qD (ju hv) hx
 have VQ:lr p role set=((fu p role set).any (jQ p role)&&(fu p role set).any fun x=>!jQ p role x):=rfl
 obtain⟨nr,od⟩:∃nr,nr=bV p role set:=⟨_,rfl⟩
 obtain⟨wt,Y2⟩:∃wt,wt=fu p role set:=⟨_,rfl⟩
 rw[←Y2]at Qf Jb X2 VQ
 rw[←od]at Ls Iz dX
 refine jH (c:=_) Tryz.func55 rfl rfl rfl (by decide) J fun w M0 H Z hd=>?_
 repeat'(first|refine aA ?_|(refine aB ?_ ?_<;>first|exact aD|(refine aE ?_;intro hb))|(refine iI Qf [] J J J J ⟨rfl,rfl,rfl,trivial⟩ ⟨rfl,rfl,rfl,rfl,rfl⟩ (fun _=>⟨rfl,rfl,rfl,rfl,rfl,rfl,rfl⟩) (fun _=>rfl) (fun _=>rfl) J J J (fun _ _=>?_);refine ao th J ?_))
 refine bE (fun k:Nat=>k≤wt.length)
  (fun k=>[(0,.v (.one (.ptr given 0))),(1,.v (C1 (ch set))),(6,.v (C1 (.bool ((wt.take k).any (jQ p role))))),(7,.v (C1 (.bool ((wt.take k).any fun x=>!jQ p role x)))),(16,.v (C1 (ch wt))),(17,.v (C1 (.int .i64 (wt.length:Int)))),(18,.v (C1 (.int .i64 (k:Int))))])
  (fun _=>kN p role v S)
  (fun k=>wt.length - k) 0 (aF _)
  (aH (h1:=by exact⟨⟨_,rfl,.refl _⟩,⟨_,rfl,.refl _⟩,⟨_,rfl,AU J⟩,⟨_,rfl,AU J⟩,⟨_,rfl,.refl _⟩,⟨_,rfl,eM (by simp)⟩,⟨_,rfl,eM J⟩,trivial⟩)) (fun k hk ih=>?_)
 by_cases bj:k < wt.length
 ·have hx:(wt.map fun r=>[CT.int .i64 r])[k]? =some [.int .i64 wt[k]]:=by simp[bj]
  have Qn:=Rt p hB role wt[k]
  rw[Ru hv hh (X2 _ (an bj))]at Qn
  have cT:=ih (k+1) bj (by omega)
  rw[p8 bj,p8 bj]at cT
  repeat'(first|refine aA ?_|(refine aB ?_ ?_<;>first|exact aD|(refine aE ?_;intro hb))|(refine bO th J J J J J J J J J k _ J hx ?_;refine ao th J ?_)|(refine mw Qn [] J J J J J J J J J J J ?_;refine dP th J ?_)|(refine bH J J J J J J (by omega) ?_;refine ao th J ?_))
  ·rw[hb,Bool.or_true,show(!true)=false from rfl,Bool.or_false]at cT
   exact aS (h1:=by exact⟨⟨_,rfl,.refl _⟩,⟨_,rfl,.refl _⟩,⟨_,rfl,AU J⟩,⟨_,rfl,.refl _⟩,⟨_,rfl,.refl _⟩,⟨_,rfl,.refl _⟩,⟨_,rfl,eM (by omega)⟩,trivial⟩) cT
  ·rw[hb,Bool.or_false,show(!false)=true from rfl,Bool.or_true]at cT
   exact aS (h1:=by exact⟨⟨_,rfl,.refl _⟩,⟨_,rfl,.refl _⟩,⟨_,rfl,.refl _⟩,⟨_,rfl,AU J⟩,⟨_,rfl,.refl _⟩,⟨_,rfl,.refl _⟩,⟨_,rfl,eM (by omega)⟩,trivial⟩) cT
 ·rw[show wt.take k=wt from bC (by omega)]
  clear ih
  obtain⟨b1,x7⟩:∃b1,b1=wt.any (jQ p role):=⟨_,rfl⟩
  obtain⟨b2,Sg⟩:∃b2,b2=wt.any fun x=>!jQ p role x:=⟨_,rfl⟩
  rw[←x7,←Sg]at VQ⊢
  have e1:jO S++[[ch nr]]=jO (S++[nr]):=by simp[jO]
  have Ix:((jO S).length:Int)=(S.length:Int):=by simp
  have Qp:((jO S++[[ch nr]]).length:Int)=(S.length:Int)+1:=by simp
  have e2:S.map lv++[lv nr]=(S++[nr]).map lv:=by simp
  repeat'(first|(refine o6 18 J ?_;refine G1 mix J J J J J J ?_;refine dP th J ?_)|(refine DOps.nil ?_;refine ao th J ?_)|refine aA ?_|(refine aB ?_ ?_<;>first|exact aD|(refine aE ?_;intro hb))|(refine mw Ls [] J J J J J J J J J J J ?_;refine dP th J ?_)|((first|refine aR Iz [] J J J J J J J J J J ?_|refine JO th J J J J J J J J J J ?_|refine oD th 1 0 J J J J J J J J _ Ix ?_|refine oD th 1 0 J J J J J J J J _ Qp ?_);refine ao th J ?_)|(refine SJ th 1 0 J J J J J J J J _ Ix ?_;refine dP th J ?_)|(refine Ns th (.inl rfl) J J J J J J J J (by simp) (mK (by assumption)) ?_;refine ao th J ?_)|(refine fa 82 J J ?_;refine sR th (i:=1) J J J J J J J J J J J J J J 0 J (by constructor<;>simp<;>omega) (fun v'=>?_);refine ao th J ?_)|(refine JH J J J J J J (by omega) ?_;refine ao th J ?_))
  all_goals unfold GB
  all_goals first
   |(rw[KS (by rw[VQ,show b1=true by assumption,show b2=true by assumption];rfl)]
     exact gq (hd:=hd) th Tryz.func55 v (.inr ⟨_,rfl⟩) J J J J ⟨rfl,rfl,rfl,trivial⟩ rfl rfl rfl trivial)
   |(have WV:lr p role set=false:=by
      rw[VQ];first|(rw[show b1=false by assumption];rfl)|(rw[show b2=false by assumption,Bool.and_false])
     first
      |(have hq:ks (S.map lv) (lv nr)=true:=by assumption
        have eA:nr∈S:=dX.1 (KM hq)
        have e3:EV (S.map lv) (lv nr)=S.idxOf nr:=K0 hS.small (od▸WO) eA
        rw[KQ WV (od▸eA),←od,e3]
        exact gq (hd:=hd) th Tryz.func55 v (.inr ⟨_,rfl⟩) J J J J ⟨rfl,rfl,rfl,trivial⟩ rfl rfl rfl trivial)
      |(have eA:nr∉S:=fun h=>absurd (dX.2 h) (mK (by assumption))
        first
             |(rw[Ib WV (od▸eA) (by omega)]
               exact gq (hd:=hd) th Tryz.func55 v (.inr ⟨_,rfl⟩) J J J J ⟨rfl,rfl,rfl,trivial⟩ rfl rfl rfl trivial)
             |(rw[KR WV (od▸eA) (by omega),←od]
               simp only[List.set_cons_zero]
               rw[e1,e2]
               exact gq (hd:=hd) th Tryz.func55 v' (.inr ⟨_,rfl⟩) J (by rw[show(S.length:Int)+1 - 1=(S.length:Int) by omega];rfl) J J ⟨rfl,rfl,rfl,trivial⟩ rfl rfl rfl trivial)))
end Go.Sy
