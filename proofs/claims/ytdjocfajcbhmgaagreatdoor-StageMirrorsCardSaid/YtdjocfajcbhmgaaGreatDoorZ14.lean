/- Layer: a pool of one row is a row of one's own that a variable's cell holds. -/
import Derived.Test.YtdjocfajcbhmgaaGreatDoorZ13
import Derived.Test.YtdjocfajcbhmgaaGreatDoorBv1
import Derived.Test.YtdjocfajcbhmgaaGreatDoorZ3
import Derived.Test.YtdjocfajcbhmgaaGreatDoorBn1
set_option linter.unusedSimpArgs false
set_option linter.unusedVariables false
set_option linter.unusedSectionVars false
namespace Go.Sy
open Go.RowKit
section
variable {C:Ctx} {n:Nat} {tm:TM} {mm:MM} {f:FuncId} {R:Ending→World→Prop} {k:List Item}
theorem Has.Sw{a:Act}{w:World}(i j b c:Nat){e sz:Nat}{v:Value}{xs:List (List CT)}{cs:List SC}(hi:getM mm i=some (.bG e sz [(v,xs)]))(iF:Nat.blt i given=true)
 (hb:getM mm b=some (.box cs))(hc:py cs c=some (.c (.val v)))(rM:Nat.blt j given=true)(Cy:iW mm j=false)(fO:ed i mm=true)(oT:eU i tm=true)(h:Has C n tm mm a w):
 Has C n tm ((j,.arr false e sz xs)::cK (eT [i] mm) b (.box (mr cs c (.own j)))) a w:=by
 obtain⟨H,Z,hm⟩:=h
 obtain⟨hH,dj⟩:=hm.mem _ (aN hi)
 have hH:H i=eA [(v,xs)]:=hH
 have dj:ea w (cU C H mm) e sz [(v,xs)]:=dj
 obtain⟨us,h1,h3,h4⟩:=dj.row (k:=0) J
 rw[ia]
 rw[mB]at hc
 have jc:=fc Cy
 have Tn:j≠i:=fun e=>jc (e▸⟨_,aN hi,rfl⟩)
 have Oq:b≠i:=fun e=>by rw[e,hi]at hb;cases hb
 have R6:b≠j:=fun e=>jc (e▸⟨_,aN hb,rfl⟩)
 have dK:∀p∈cK (eT [i] mm) b (.box (cs.set c (.own j))),∃q∈mm,q.1=p.1∧p.1≠i∧p.1≠j∧((p=q∧p.1≠b)∨p=(b,.box (cs.set c (.own j)))):=fun p hp=>by
  rcases cq p hp with⟨rfl,_⟩|⟨k1,k2⟩
  ·exact⟨_,aN hb,rfl,Oq,R6,.inr rfl⟩
  ·obtain⟨g1,g2⟩:=dm.1 k1
   exact⟨p,g1,rfl,by simpa using g2,fun e=>jc ⟨p,g1,e⟩,.inl ⟨rfl,k2⟩⟩
 have qV:∀q,q≠j→Sy.jf H j v q=H q:=fun q hq=>bx _ _ hq
 have Mu:∀q,q≠j→Sy.jf Z j sz q=Z q:=fun q hq=>bx _ _ hq
 have Cs:∀b,Hb v b→Hb (H i) b:=fun b hb=>by
  rw[hH];exact cO.2 ⟨_,ah,by rw[l4 h1];exact(pM h1 b).1 hb⟩
 have pE:∀q,q≠i→cD mm q→cD ((j,.arr false e sz xs)::cK (eT [i] mm) b (.box (cs.set c (.own j)))) q:=fun q hq ⟨p,hp,e⟩=>by
  obtain⟨p',oA,e'⟩:=(eI (i:=b) (o:=.box (cs.set c (.own j))) q).2 ⟨p,(dm (ids:=[i])).2 ⟨hp,by simpa[e]using hq⟩,e⟩
  exact⟨p',ab _ oA,e'⟩
 refine⟨Sy.jf H j v,Sy.jf Z j sz,hm.build (fun _=>False) (Ext.refl _ w) (fun _ _ h=>h.elim) hm.defers hm.size ?_ ?_ ?_ ?_ ?_⟩
 ·intro p hp jZ
  rcases ae.1 hp with rfl|hp
  ·have:=aY.mp rM;simp only at jZ;omega
  ·obtain⟨q,hq,e1,_,e3,_⟩:=dK p hp
   rw[qV _ e3,←e1];exact hm.hg q hq (by rw[e1];exact jZ)
 ·intro p hp q hq he
  rcases ae.1 hp with rfl|hp<;>rcases ae.1 hq with rfl|hq
  ·rfl
  ·obtain⟨_,_,_,_,e3,_⟩:=dK q hq;exact absurd he.symm e3
  ·obtain⟨_,_,_,_,e3,_⟩:=dK p hp;exact absurd he e3
  ·obtain⟨p',oA,e1,_,_,e4⟩:=dK p hp
   obtain⟨q',pO,f1,_,_,f4⟩:=dK q hq
   rcases e4 with⟨e4,e5⟩|e4<;>rcases f4 with⟨f4,f5⟩|f4
   ·subst e4 f4;exact hm.ids _ oA _ pO he
   ·subst f4;exact absurd he e5
   ·subst e4;exact absurd he.symm f5
   ·rw[e4,f4]
 ·intro p hp
  rcases ae.1 hp with rfl|hp
  ·refine .inr ⟨fun b hb=>?_,fun iH _=>?_⟩
   ·rw[bc]at hb
    exact .inr ⟨_,aN hi,Cs b hb,.inr ⟨aY.mp iF,aY.mp rM⟩⟩
   ·refine⟨bc _ _ _,us,by rw[bc];exact h1,fun h=>(by cases h),h3,fun k x hx m c hc=>?_⟩
    obtain⟨u,hu,hr⟩:=h4 k x hx m c hc
    exact⟨u,hu,hr.mono (aA _) (fun _ _ _=>rfl) iH⟩
  ·obtain⟨q,hq,e1,e2,e3,e4⟩:=dK p hp
   rcases e4 with⟨rfl,_⟩|rfl
   ·exact .inl ⟨hq,qV _ e3,Mu _ e3,fun _ _ h=>h,fun r hr K9=>⟨pE r (fun e=>dP fO hq (e▸hr)) K9,qV r (fun e=>jc (e▸K9)),Mu r (fun e=>jc (e▸K9))⟩⟩
   ·refine .inr ⟨fun b' pP=>.inr ⟨_,aN hb,by rw[qV _ e3]at pP;exact pP,.inl rfl⟩,fun iH _=>?_⟩
    obtain⟨bl,ty,vs,g1,g2,g3,g4⟩:=hm.mem _ (aN hb)
    refine⟨bl,ty,vs,by rw[qV _ e3];exact g1,g2,by simpa using g3,fun k ct hk=>?_⟩
    rw[cY]at hk
    split at hk
    ·rename_i Pv
     split at hk
     ·injection hk with hk;subst hk
      rw[←Pv]
      obtain⟨u,hu,ho,hr⟩:=g4 c _ hc
      have hv:u=v:=a7.iM hr
      subst hv
      exact⟨_,hu,ho,⟨⟨_,ah,rfl⟩,(bc _ _ _).symm⟩⟩
     ·cases hk
    ·obtain⟨u,hu,ho,hr⟩:=g4 k ct hk
     exact⟨u,hu,ho,hr.mono (fun r hr K9=>⟨pE r (fun e=>dP fO (aN hb) (by
      rw[←e];simp only[MO.bD,bt];exact⟨ct,an hk,hr⟩)) K9,qV r (fun e=>jc (e▸K9)),Mu r (fun e=>jc (e▸K9))⟩) (aA _) (fun _ _ _=>rfl) iH⟩
 ·intro p hp q hq jl b' cC db
  rcases ae.1 hp with rfl|hp<;>rcases ae.1 hq with rfl|hq
  ·exact jl J
  ·obtain⟨q',pO,f1,f2,f3,_⟩:=dK q hq
   rw[bc]at cC
   rw[qV _ f3,←f1]at db
   exact hm.sep _ (aN hi) q' pO (by rw[f1];exact Ne.symm f2) b' (Cs b' cC) db
  ·obtain⟨p',oA,e1,e2,e3,_⟩:=dK p hp
   rw[bc]at db
   rw[qV _ e3,←e1]at cC
   exact hm.sep p' oA _ (aN hi) (by rw[e1];exact e2) b' cC (Cs b' db)
  ·obtain⟨p',oA,e1,_,e3,_⟩:=dK p hp
   obtain⟨q',pO,f1,_,f3,_⟩:=dK q hq
   rw[qV _ e3,←e1]at cC
   rw[qV _ f3,←f1]at db
   exact hm.sep p' oA q' pO (by rw[e1,f1];exact jl) b' cC db
 ·intro p hp
  exact .inl ⟨p,hp,rfl,rfl,fun q hq qu=>⟨pE q (fun e=>eB oT p hp (e▸hq)) qu,qV q (fun e=>jc (e▸qu)),Mu q (fun e=>jc (e▸qu))⟩⟩
theorem OH(i j b c:Nat){e sz:Nat}{v:Value}{xs:List (List CT)}{cs:List SC}(hi:getM mm i=some (.bG e sz [(v,xs)]))(iF:Nat.blt i given=true)
 (hb:getM mm b=some (.box cs))(hc:py cs c=some (.c (.val v)))(rM:Nat.blt j given=true)(Cy:iW mm j=false)(fO:ed i mm=true)(oT:eU i tm=true)
 (g:Goes C f n R k tm ((j,.arr false e sz xs)::cK (eT [i] mm) b (.box (mr cs c (.own j))))):Goes C f n R k tm mm:=
 g.mono fun _ _ h=>h.Sw i j b c hi iF hb hc rM Cy fO oT
end
section
variable {C:Ctx} {n:Nat} {tm:TM} {mm:MM} {f:FuncId} {R:Ending→World→Prop} {k:List Item}
def Q2:List Item→Option Nat
 |.code (.region i _ _)::_=>some i
 |.code (.seq (.region i _ _) _)::_=>some i
 |_=>none
theorem Rc(i:Nat)(_:Q2 k=some i)(h:Goes C f n R k tm mm):Goes C f n R k tm mm:=h
end
section
variable {C:Ctx} {n:Nat} {tm:TM} {mm:MM} {f:FuncId} {R:Ending→World→Prop} {k:List Item}
end
end Go.Sy
set_option linter.unusedSimpArgs false
set_option linter.unusedVariables false
set_option linter.unusedSectionVars false
namespace Go.Sy
open Go.Proofs Go.Shelf Go.RowKit Go.Sort
set_option maxRecDepth 100000
attribute [local irreducible] SOps Goes DOps EOps FOps
section
variable {C:Ctx} {n:Nat} {tm:TM} {mm:MM} {L l:List Oper} {T:TM→MM→Prop} {o:Oper} {d:Nat} {x y p q:Operand} {ty:TypeId}
end
section
variable {C:Ctx} {n:Nat} {tm cp:TM} {eh:MM} {L l:List Oper} {R:TM→Prop} {T:TM→MM→Prop} {o:Oper} {d i:Nat} {p q:Operand} {ty:TypeId}
end
end Go.Sy
namespace Go.Sy
open Go.Proofs
set_option maxRecDepth 100000
attribute [local irreducible] SOps Goes DOps EOps FOps
end Go.Sy
