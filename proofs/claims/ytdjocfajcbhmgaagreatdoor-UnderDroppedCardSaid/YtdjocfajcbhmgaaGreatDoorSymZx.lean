/- Symbolic states: a region that draws its order, in which a chain of operations changes memory, and one more makes a variable at any time. -/
import Derived.Test.YtdjocfajcbhmgaaGreatDoorSymZs
set_option linter.unusedSimpArgs false
set_option linter.unusedVariables false
set_option linter.unusedSectionVars false
namespace Go.Sy
open Go.RowKit
section
variable {C:Ctx} {n:Nat} {L:List Oper} {tm:TM}
def Td{ι:Type}(d0:Nat)(b:Bool)(ET:Nat→ι→TM)(k:Nat)(x:ι):TM:=match b with
 |true=>(d0,.v (.one (.ptr d0 0)))::ET k x
 |false=>ET k x
def PY{ι:Type}(d0:Nat)(bz:Nat→ι→MO)(b:Bool)(MMx:Nat→ι→MM)(k:Nat)(x:ι):MM:=match b with
 |true=>MMx k x++[(d0,bz k x)]
 |false=>MMx k x
theorem Has.T6{a:Act}{w:World}{mm mm':MM}(h:Has C n tm mm a w)(h1:∀q∈mm',q∈mm)(h2:∀q∈mm,q∈mm'):Has C n tm mm' a w:=
 h.T8 (fun _ hp=>hp) h1 (fun p hp j hj=>let⟨q,hq,e⟩:=h.Nc p hp j hj;⟨q,h2 q hq,e⟩) (fun q hq j hj=>let⟨q',rm,e⟩:=h.Gy q (h1 q hq) j hj;⟨q',h2 q' rm,e⟩)
theorem Ta{ι:Type}{d0:Nat}{bz:Nat→ι→MO}{b:Bool}{MMx:Nat→ι→MM}{k:Nat}{x:ι}{q:Nat×MO}(h:q∈MMx k x):q∈PY d0 bz b MMx k x:=by
 cases b with
 |true=>exact dN _ h
 |false=>exact h
theorem P1{ι:Type}{d0:Nat}{b:Bool}{ET:Nat→ι→TM}{k:Nat}{x:ι}{p:Nat×ST}(h:p∈ET k x):p∈Td d0 b ET k x:=by
 cases b with
 |true=>exact ab _ h
 |false=>exact h
theorem Tc{ι:Type}{d0:Nat}{b:Bool}{ET:Nat→ι→TM}{k:Nat}{x:ι}{p:Nat×ST}(h:p∈Td d0 b ET k x):p=(d0,.v (.one (.ptr d0 0)))∨p∈ET k x:=by
 cases b with
 |true=>exact ae.1 h
 |false=>exact .inr h
theorem PM{ι:Type}{ET:Nat→ι→TM}{MMx:Nat→ι→MM}{cN:TM}{E:List Nat}{mmf:Nat→MM}{a0 d0:Nat}{bz:Nat→ι→MO}(dL:∀(listed:Array Bool) (k:Nat),Hr L listed→(∀j e,E[j]? =some e→(listed.getD e false=true↔j < k))→∀i,i < L.length→i∉E→i≠a0→listed.getD i false=false→∀x,∀q∈mmf i,q∈MMx k x)(b6:kV L [] L 0=true)(hV:∀(i:Nat) (o:Oper),L[i]? =some o→i∉E→i≠a0→PX C n (mmf i) L cN o)
 {oa:Oper}(LJ:L[a0]? =some oa)(rn:oa.dst=some d0)(ZU:a0∉E)(VZ:∀p∈cN,p.1≠d0)(Fu:∀e,E[E.length - 1]? =some e→∃o,L[e]? =some o∧a0∈fi o.after.toList)
 (hA:∀k x,k < E.length→∀(tm:TM) (a:Act) (w:World) (K:Act→World→Prop) (Q:Exit→Act→World→Prop),eO L cN oa tm→Has C n tm (MMx k x) a w→(∀a' w',Has C n ((d0,.v (.one (.ptr d0 0)))::bo tm d0) (MMx k x++[(d0,bz k x)]) a' w'→K a' w')→if Region.wanted oa (yielded L.toArray a.tmps)then oa.wp C.P a w K Q else K (a.put oa.dst undef) w)
 (AW:∀p∈cN,∀q∈cN,p.1=q.1→p=q)(FE:E≠[])(xc:nP L E=true)
 (Xh:∀p∈cN,∀k e,E[k]? =some e→∀o,L[e]? =some o→o.dst=some p.1→∀x,p∈ET (k+1) x)
 (vr:∀k x,∀p∈ET k x,∃e∈E,∃o,L[e]? =some o∧o.dst=some p.1)
 (FF:∀b k e o x,E[k]? =some e→L[e]? =some o→(k+1=E.length→b=true)→lF C n L cN (Td d0 b ET) (PY d0 bz b MMx) k x o)
 {P:TM→MM→Prop}(hP:∀x,P (((d0,.v (.one (.ptr d0 0)))::cN)++ET E.length x) (MMx E.length x++[(d0,bz E.length x)])):
 ∀(fuel:Nat) (listed:Array Bool) (b:Bool) (k:Nat) (x:ι) (a:Act) (w:World) (tm:TM),listed.size=L.length→(listed.toList.filter (!·)).length≤fuel→(∀p,mQ L listed cN p→p∈tm)→(∀p∈Td d0 b ET k x,p∈tm)→listed.getD a0 false=b→
  (∀j e,E[j]? =some e→(listed.getD e false=true↔j < k))→k≤E.length→(∀j o,L[j]? =some o→listed.getD j false=true→∀i∈fi o.after.toList,listed.getD i false=true)→Has C n tm (PY d0 bz b MMx k x) a w→
  wpAny C.P .any L.toArray (QT C n P) fuel listed a w:=by
 obtain⟨OS,Sd⟩:=mi xc
 have QD:0 < E.length:=fS.2 FE
 have Sm:∀e,E[E.length - 1]? =some e→e+1=L.length:=fun e he=>Sd _ e he (by omega)
 have kJ:∀(listed:Array Bool),listed.size=L.length→Region.ready .any L.toArray listed=[]→∀k,k < L.length→listed.getD k false=true:=by
  intro listed cM hr k
  induction k using Nat.strongRecOn with
  |_ k ih=>
   intro hk
   cases hl:listed.getD k false with
   |true=>rfl
   |false=>
    have dX:k∈Region.ready .any L.toArray listed:=by
     rw[mem_ready]
     refine⟨?_,L[k],by simp[hk],fun e he hb=>?_⟩
     ·have Lx:k < listed.size:=by omega
      simp[Array.getD,Lx]at hl⊢;exact hl
     ·obtain⟨_,h3⟩:=fv b6 k L[k] (aa hk)
      have:e.on∈fi L[k].after.toList:=by
       have key:∀l:List Go.Edge,e∈l→e.on∈fi l:=by
        intro l
        induction l with
        |nil=>intro h;cases h
        |cons x l ih=>
         intro h
         unfold fi
         rcases ae.1 h with rfl|h
         ·rw[hb];exact ah
         ·split
          ·exact ab _ (ih h)
          ·exact ih h
       exact key _ (by simpa using he)
      have bj:=dz h3 _ this
      exact ih e.on (by omega) (by omega)
    rw[hr]at dX;cases dX
 have oZ:∀(listed:Array Bool) (b:Bool) (k:Nat) (x:ι) (a:Act) (w:World) (tm:TM),listed.size=L.length→(∀p,mQ L listed cN p→p∈tm)→(∀p∈Td d0 b ET k x,p∈tm)→listed.getD a0 false=b→(∀j e,E[j]? =some e→(listed.getD e false=true↔j < k))→k≤E.length→Has C n tm (PY d0 bz b MMx k x) a w→Region.ready .any L.toArray listed=[]→QT C n P .normal a w:=by
  intro listed b k x a w tm cM hk Dg hb cZ j7 hh hr
  have ZP:b=true:=by rw[←hb];exact kJ listed cM hr a0 (ai.1 LJ).1
  subst ZP
  have UH:k=E.length:=by
   rcases bJ k E.length with h|h
   ·have he:E[k]? =some E[k]:=aa h
    have bj:E[k] < L.length:=by
     rcases bJ E[k] L.length with h'|h'
     ·exact h'
     ·exfalso
      rcases bJ (k+1) E.length with h2|h2
      ·obtain⟨o,ho,qt⟩:=OS k _ _ he (aa h2)
       obtain⟨_,h3⟩:=fv b6 _ o ho
       have:=dz h3 _ qt
       have:=(ai.1 ho).1
       omega
      ·have:=Sd k _ he (by omega)
       omega
    have:=(cZ k _ he).1 (kJ listed cM hr _ bj)
    omega
   ·omega
  subst UH
  refine⟨_,_,hP x,hh.kX fun p hp=>?_⟩
  rcases aK.1 hp with hp|hp
  ·rcases ae.1 hp with rfl|hp
   ·exact Dg _ ah
   refine hk p ⟨hp,?_⟩
   by_cases hd:p.1∈bP L
   ·obtain⟨k,o,h1,h2⟩:=eI hd
    exact .inr ⟨k,o,h1,h2,kJ listed cM hr k (ai.1 h1).1⟩
   ·exact .inl hd
  ·exact Dg p (ab _ hp)
 intro fuel
 induction fuel with
 |zero=>
  intro listed b k x a w tm cM hc hk Dg hb cZ j7 vp hh
  have hr:Region.ready .any L.toArray listed=[]:=by
   rw[cG]
   intro j hj
   obtain⟨h1,o,h2,_⟩:=mem_ready.1 hj
   have fg:j < listed.size:=by rw[cM];simpa using(bd.1 h2).1
   have:listed[j]=false:=by simpa[Array.getD,fg]using h1
   have hm:false∈listed.toList.filter (!·):=by
    rw[cn];exact⟨by rw[←this];simp,rfl⟩
   have:=dU hm
   omega
  exact⟨hr,oZ listed b k x a w tm cM hk Dg hb cZ j7 hh hr⟩
 |succ fuel ih=>
  intro listed b k x a w tm cM hc hk Dg hb cZ j7 vp hh
  refine⟨oZ listed b k x a w tm cM hk Dg hb cZ j7 hh,fun i hi=>?_⟩
  obtain⟨h1,o,h2,h3⟩:=mem_ready.1 hi
  have hL:L[i]? =some o:=by simpa using h2
  have sb:i < L.length:=(ai.1 hL).1
  have mT:i < listed.size:=by omega
  have iO:listed[i]=false:=by simpa[Array.getD,mT]using h1
  have ia:listed.getD i false=false:=by simpa[Array.getD,mT]using iO
  obtain⟨hw,_⟩:=fv b6 i o hL
  have qt:∀j,j∈fi o.after.toList→listed.getD j false=true:=by
   have key:∀l:List Go.Edge,(∀e∈l,e∈o.after)→∀j,j∈fi l→listed.getD j false=true:=by
    intro l
    induction l with
    |nil=>intro _ j h;simp[fi]at h
    |cons x l ih=>
     intro hl j h
     unfold fi at h
     split at h
     ·rename_i hb
      rcases ae.1 h with rfl|h
      ·exact h3 x (hl x ah) hb
      ·exact ih (fun e he=>hl e (ab _ he)) j h
     ·exact ih (fun e he=>hl e (ab _ he)) j h
   exact key _ (fun e he=>by simpa using he)
  have dn:eO L cN o tm:=by
   intro p hp hl
   refine hk p ⟨hp,?_⟩
   by_cases hd:p.1∈bP L
   ·obtain⟨k,o',k1,k2⟩:=eI hd
    have:=iK hw k o' p.1 k1 k2 hl
    exact .inr ⟨k,o',k1,k2,qt k (by simpa using this)⟩
   ·exact .inl hd
  have gp:((listed.setIfInBounds i true).toList.filter (!·)).length≤fuel:=by
   have h5:((listed.setIfInBounds i true).toList.filter (!·)).length+1=(listed.toList.filter (!·)).length:=by
    rw[show(listed.setIfInBounds i true).toList=listed.toList.set i true by simp]
    exact count_set (by simp[mT,iO])
   omega
  have j6:(listed.setIfInBounds i true).size=L.length:=by simpa using cM
  have other:∀k,k≠i→(listed.setIfInBounds i true).getD k false=listed.getD k false:=fun k hk=>getD_set_ne false (Ne.symm hk)
  have r8:(listed.setIfInBounds i true).getD i false=true:=gE mT
  have Bb:∀j o,L[j]? =some o→(listed.setIfInBounds i true).getD j false=true→∀q∈fi o.after.toList,(listed.setIfInBounds i true).getD q false=true:=by
   intro j o' dv hj q hq
   have rm:listed.getD q false=true:=by
    by_cases lz:j=i
    ·subst lz
     rw[hL]at dv;injection dv with dv;subst dv
     exact qt q hq
    ·rw[other j lz]at hj
     exact vp j o' dv hj q hq
   by_cases nv:q=i
   ·rw[nv];exact r8
   ·rw[other q nv];exact rm
  unfold wpOp
  simp only[b8,hL]
  have fin:∀{K:Prop} {W:Prop} [Decidable W] {A B:Prop},(if W then A else K)→(if W then A∨B else K):=by
   intro K W _ A B h
   split
   ·rename_i hw;rw[if_pos hw]at h;exact .inl h
   ·rename_i hw;rw[if_neg hw]at h;exact h
  refine fin ?_
  by_cases lg:i∈E
  ·
   obtain⟨j,hj,lz⟩:=aC.1 lg
   have Dr:E[j]? =some i:=by rw[aa hj,lz]
   have OJ:j=k:=by
    have g1:¬j < k:=fun h=>by
     have:=(cZ j i Dr).2 h
     rw[ia]at this;cases this
    rcases bI j k with h|h|h
    ·exact absurd h g1
    ·exact h
    ·exfalso
     obtain⟨j',rfl⟩:∃j',j=j'+1:=⟨j - 1,by omega⟩
     obtain⟨o',dv,qW⟩:=OS j' _ _ (aa (by omega)) Dr
     rw[hL]at dv;injection dv with dv;subst dv
     have:=(cZ j' _ (aa (by omega))).1 (qt _ qW)
     omega
   subst OJ
   have Je:a0≠i:=fun e=>ZU (e▸lg)
   refine FF b j i o x Dr hL (fun hl=>?_) tm a w _ _ dn Dg hh fun x' tm' a' w' g1 g2 h'=>?_
   ·obtain⟨o',dv,qW⟩:=Fu i (by rw[show E.length - 1=j by omega];exact Dr)
    rw[hL]at dv;injection dv with dv;subst dv
    rw[←hb];exact qt _ qW
   refine ih _ b (j+1) x' a' w' tm' j6 gp (fun p hp=>?_) g2 (by rw[other a0 Je];exact hb) (fun j' e' ma=>?_) (by omega) Bb h'
   ·obtain⟨A6,Lo⟩:=hp
    rcases Lo with Lo|⟨q,o',q1,q2,q3⟩
    ·exact g1 p A6 (hk p ⟨A6,.inl Lo⟩)
    ·by_cases nv:q=i
     ·rw[nv,hL]at q1;injection q1 with q1;subst q1
      exact g2 p (P1 (Xh p A6 j i Dr o hL q2 x'))
     ·exact g1 p A6 (hk p ⟨A6,.inr ⟨q,o',q1,q2,by rwa [other q nv]at q3⟩⟩)
   ·by_cases he:e'=i
    ·subst he
     have A8:j'=j:=by
      have oU:∀p q (hp:p < E.length) (hq:q < E.length),p < q→E[p] < E[q]:=by
       intro p q hp hq kl
       induction q with
       |zero=>omega
       |succ q Uc=>
        obtain⟨o',dv,qW⟩:=OS q _ _ (aa (by omega)) (aa hq)
        obtain⟨_,h3⟩:=fv b6 _ o' dv
        have bj:=dz h3 _ qW
        by_cases Ll:p=q
        ·subst Ll;omega
        ·have:=Uc (by omega) (by omega);omega
      obtain⟨A9,UJ⟩:=ai.1 ma
      rcases bI j' j with h|h|h
      ·have:=oU _ _ A9 hj h;omega
      ·exact h
      ·have:=oU _ _ hj A9 h;omega
     subst A8
     simp[r8]
    ·rw[other _ he]
     have:=cZ j' e' ma
     have cV:j'≠j:=fun e=>he (by subst e;rw[Dr]at ma;injection ma with ma;exact ma.symm)
     rw[this];omega
  ·by_cases Je:i=a0
   ·
    subst Je
    rw[LJ]at hL;injection hL with hL;subst hL
    have ZQ:b=false:=by rw[←hb];exact ia
    subst ZQ
    have W1:k < E.length:=by
     rcases bJ k E.length with h|h
     ·exact h
     ·exfalso
      have he:E[E.length - 1]? =some E[E.length - 1]:=aa (by omega)
      obtain⟨o',dv,qW⟩:=Fu _ he
      have:=vp _ o' dv ((cZ _ _ he).2 (by omega)) _ qW
      rw[ia]at this;cases this
    refine hA k x W1 tm a w _ _ dn hh fun a' w' h'=>ih _ true k x a' w' _ j6 gp (fun p hp=>?_) (fun p hp=>?_) r8 (fun j' e' ma=>?_) j7 Bb h'
    ·obtain⟨g1,g2⟩:=hp
     refine ab _ (b9 (hk p ⟨g1,?_⟩) (VZ p g1))
     rcases g2 with g2|⟨q,o',q1,q2,q3⟩
     ·exact .inl g2
     ·refine .inr ⟨q,o',q1,q2,?_⟩
      have nv:q≠i:=by
       intro e;subst e
       rw[LJ]at q1;injection q1 with q1;subst q1
       rw[rn]at q2;injection q2 with q2;exact VZ p g1 q2.symm
      rwa [other q nv]at q3
    ·rcases ae.1 (show p∈(d0,.v (.one (.ptr d0 0)))::ET k x from hp)with rfl|hp
     ·exact ah
     ·refine ab _ (b9 (Dg p hp) fun e=>?_)
      obtain⟨e',ma,o',dv,uX⟩:=vr k x p hp
      have cV:e'≠i:=fun q=>lg (q▸ma)
      rcases bI e' i with bj|heq|bj
      ·exact ew rn b6 _ _ LJ bj dv (by rw[uX,e])
      ·exact cV heq
      ·exact ew uX b6 _ _ dv bj LJ (by rw[rn,e])
    ·rw[other _ (fun q=>lg (by rw[←q];exact aj ma))]
     exact cZ j' e' ma
   obtain⟨d,s,e1,e2,h⟩:=hV i o hL lg Je
   refine h tm (PY d0 bz b MMx k x) dn (fun q hq=>Ta (dL listed k vp cZ i sb lg Je ia x q hq)) a w _ _ hh fun a' w' h'=>ih _ b k x a' w' _ j6 gp (fun p hp=>?_) (fun p hp=>?_) (by rw[other a0 (fun e=>Je e.symm)];exact hb) (fun j' e' ma=>?_) j7 Bb h'
   ·obtain⟨g1,g2⟩:=hp
    by_cases tk:p.1=d
    ·have:p=(d,s):=AW p g1 (d,s) e2 tk
     rw[this];exact ah
    ·refine ab _ (b9 (hk p ⟨g1,?_⟩) tk)
     rcases g2 with g2|⟨q,o',q1,q2,q3⟩
     ·exact .inl g2
     ·refine .inr ⟨q,o',q1,q2,?_⟩
      have nv:q≠i:=by
       intro e;subst e
       rw[hL]at q1;injection q1 with q1;subst q1
       rw[e1]at q2;injection q2 with q2;exact tk q2.symm
      rwa [other q nv]at q3
   ·refine ab _ (b9 (Dg p hp) fun e=>?_)
    obtain⟨e',cV,o',dv,uX⟩:∃e',e'≠i∧∃o,L[e']? =some o∧o.dst=some p.1:=by
     rcases Tc hp with rfl|hp
     ·exact⟨a0,fun e=>Je e.symm,oa,LJ,rn⟩
     ·obtain⟨e',ma,r⟩:=vr k x p hp
      exact⟨e',fun q=>lg (q▸ma),r⟩
    rcases bI e' i with bj|heq|bj
    ·exact ew e1 b6 _ _ hL bj dv (by rw[uX,e])
    ·exact cV heq
    ·exact ew uX b6 _ _ dv bj hL (by rw[e1,e])
   ·rw[other _ (fun q=>lg (by rw[←q];exact aj ma))]
    exact cZ j' e' ma
theorem Pd{ι:Type}{ET:Nat→ι→TM}{MMx:Nat→ι→MM}{cN:TM}{k d0:Nat}{bz:Nat→ι→MO}{x:ι}{o:Oper}(h:lF C n L ((d0,.v (.one (.ptr d0 0)))::cN) ET (PY d0 bz true MMx) k x o):lF C n L cN (Td d0 true ET) (PY d0 bz true MMx) k x o:=by
 intro tm a w K Q hl he hh hK
 refine h tm a w K Q (fun p hp uV=>?_) (fun p hp=>he p (ab _ hp)) hh fun x' tm' a' w' g1 g2 h'=>hK x' tm' a' w' (fun p hp=>g1 p (ab _ hp)) (fun p hp=>?_) h'
 ·rcases ae.1 hp with rfl|hp
  ·exact he _ ah
  ·exact hl p hp uV
 ·rcases ae.1 (show p∈(d0,.v (.one (.ptr d0 0)))::ET (k+1) x' from hp)with rfl|hp
  ·exact g1 _ ah (he _ ah)
  ·exact g2 p hp
def GG(L:List Oper)(a0:Nat):List Nat→Bool
 |[]=>false
 |[e]=>match qR L e with
  |some o=>eV (fi o.after.toList) a0
  |none=>false
 |_::e::r=>GG L a0 (e::r)
theorem wU{a0:Nat}:∀{E:List Nat},GG L a0 E=true→∀e,E[E.length - 1]? =some e→∃o,L[e]? =some o∧a0∈fi o.after.toList
 |[],h,_,_=>by cases h
 |[e],h,e',he=>by
  simp at he;subst he
  unfold GG at h
  split at h
  ·rename_i o ho
   exact⟨o,by rw[←ln];exact ho,cD.1 h⟩
  ·cases h
 |_::e::r,h,e',he=>wU (E:=e::r) h e' (by simpa using he)
theorem LZ{Θ:da}(bt:a8 C.P Θ){ι:Type}(a0 d0:Nat)(E:List Nat)(ids:List Nat)(ET:Nat→ι→TM)(MMx:Nat→ι→MM)(bz:Nat→ι→MO)(x0:ι){mm:MM}{f:FuncId}{Rr:Ending→World→Prop}{k:List Item}{id:Nat}(mq:C.P.follows .mixedOrders=true)
 {oa:Oper}{e z cz:Nat}{ag:Bool}{zr:List CT}{sh:Sh}(Lp:qR L a0=some oa)(VO:oa.op=.alloc e)(Za:aP Θ e=some ⟨z,cz,ag,some zr,sh⟩)(rn:oa.dst=some d0)(hn:Nat.blt d0 n=true)(ZA:oa.guard=none)(gb:∀k x,jj (MMx k x) d0=false)(Z9:eV E a0=false)(Fu:GG L a0 E=true)(ZN:∀k x,k < E.length→bz k x=.box (zr.map SC.c))
 (RW:MMx 0 x0=mm)(xe:∀k x,k < E.length→∀q∈fO ids mm,q∈MMx k x)(UZ:ET 0 x0=[])(vr:∀k x,HA E L (ET k x)=true)
 (b6:kV L [] L 0=true)(hu:rD (bP L) (gB (bP L) tm)=true)(FE:E≠[])(sC:pZ L (L.length - 1)=true)(xc:nP L E=true)
 (h:FOps C n (fun _=>fO ids mm) L (gB (bP L) tm) (a0::E) 0 L (gB (bP L) tm) fun cN=>gY C n L ((d0,.v (.one (.ptr d0 0)))::cN) ET (PY d0 bz true MMx) 0 E∧gY C n L cN ET MMx 0 E.dropLast∧∀x,Goes C f n Rr k (((d0,.v (.one (.ptr d0 0)))::cN)++ET E.length x) (MMx E.length x++[(d0,bz E.length x)])):
 Goes C f n Rr (.code (.region id L.toArray true)::k) tm mm:=by
 have hE:=fS.2 FE
 have LJ:L[a0]? =some oa:=by rw[←ln];exact Lp
 refine Goes.mono (tm':=gB (bP L) tm) (mm':=mm) ?_ (fun _ _ hh=>hh.kX fun _ hp=>jG hp)
 obtain⟨u1,u2⟩:=jW hu
 intro a w hh b cs hb hk
 obtain⟨cN,⟨FF,UY,hg⟩,hF⟩:=h [] ⟨fun j o hj=>(by omega),u2,fun p hp _=>hp,b6,rfl,rfl,fun p hp=>.inl hp⟩
 have jR:∀k,(Array.replicate L.length false).getD k false=false:=fun k=>by
  by_cases hk:k < L.length
  ·simp[Array.getD,hk]
  ·simp[Array.getD,hk]
 have VZ:∀p∈cN,p.1≠d0:=fun p hp e=>by
  rcases hF.kd p hp with hn|⟨j,o',hj,dv,uX⟩
  ·exact u1 p hn (by rw[e];exact eH (aj LJ) rn)
  ·rw[e]at uX
   rcases bI j a0 with bj|heq|bj
   ·exact absurd uX (ew rn b6 _ _ LJ bj dv)
   ·subst heq;exact hj ah
   ·exact absurd rn (ew uX b6 _ _ dv bj LJ)
 have o3:=PM (bz:=bz) (P:=fun tm' mm'=>Goes C f n Rr k tm' mm') (mmf:=fun _=>fO ids mm) (MMx:=MMx)
  (fun listed k vp cZ i hi lg Je hf x=>xe k x (by
    rcases bJ k E.length with hk|hk
    ·exact hk
    ·exfalso
     have he:E[E.length - 1]? =some E[E.length - 1]:=aa (by omega)
     have:=uy b6 sC xc FE listed vp _ he ((cZ _ _ he).2 (by omega)) i hi lg
     rw[hf]at this;cases this))
  b6 (fun i o ho hi Je=>hF.ok i o (ai.1 ho).1 ho (fun hm=>(ae.1 hm).elim Je hi)) LJ rn (wA Z9) VZ (wU Fu)
  (fun k x j7 tm a w K Q hl hh hK=>by
    rw[ZN k x j7]at hK
    rw[if_pos (by unfold Region.wanted;rw[ZA])]
    exact(wq bt VO Za (by
     have:=gb k x
     unfold jj at this
     cases OP:getM (MMx k x) d0 with
     |none=>rfl
     |some y=>rw[OP]at this;cases this) rn hn).wp a w K Q hh fun a' w' h'=>hK a' w' (h'.T6 (fun q hq=>(aK.1 hq).elim (ab _) fun h=>by rw[aq.1 h];exact ah) fun q hq=>(ae.1 hq).elim (fun h=>by rw[h];exact bQ _ (aq.2 rfl)) (dN _)))
  hF.keys FE xc
  (fun p hp k0 e gv o ho hd=>by
    have he:=aj gv
    exfalso
    rcases hF.kd p hp with hn|⟨j,o',hj,dv,uX⟩
    ·exact u1 p hn (eH (aj ho) hd)
    ·rcases bI j e with bj|heq|bj
     ·exact absurd uX (ew hd b6 _ _ ho bj dv)
     ·subst heq;exact hj (ab _ he)
     ·exact absurd hd (ew uX b6 _ _ dv bj ho))
  (fun k x=>sM (vr k x))
  (fun b k e o x he ho Df=>by
    cases b with
    |true=>have:=FF.get k e o x he ho;rw[fq]at this;exact Pd this
    |false=>
     have j7:k+1 < E.length:=by
      have:=(ai.1 he).1
      rcases bJ (k+1) E.length with h|h
      ·exact h
      ·cases Df (by omega)
     have:=UY.get k e o x (by rw[List.getElem?_dropLast,if_pos (by omega)];exact he) ho
     rw[fq]at this;exact this)
  hg L.length (Array.replicate L.length false) false 0 x0 a {w with drawn:=w.drawn+1} (gB (bP L) tm) (by simp)
  (by rw[show(Array.replicate L.length false).toList=List.replicate L.length false by simp];exact dB (cR _ _) (by simp))
  (fun p hp=>by
    obtain⟨g1,g2|⟨k,o,k1,k2,k3⟩⟩:=hp
    ·exact hF.base p g1 g2
    ·rw[jR k]at k3;cases k3)
  (fun p hp=>by rw[show Td d0 false ET 0 x0=ET 0 x0 from rfl,UZ]at hp;cases hp) (jR a0)
  (fun j e _=>by rw[jR e];simp) (aF _) (fun j o _ hj=>by rw[jR j]at hj;cases hj) (by rw[show PY d0 bz false MMx 0 x0=MMx 0 x0 from rfl,RW];exact hh.drawn)
 have K9:=wp_region_any (id:=id) (Q:=QT C n (fun tm' mm'=>Goes C f n Rr k tm' mm')) (ops:=L.toArray) (a:=a) (w:=w) mq (by simpa using o3)
 obtain⟨e,a',w',hq,qi⟩:=K9 b k cs
 cases e with
 |normal=>
  obtain⟨tm',mm',hg,IC⟩:=hq
  obtain⟨e,yc,fr,g1,g2,g3⟩:=hg a' w' IC b cs hb hk
  exact⟨e,yc,fr,g1,Comes.of_steps qi g2,g3⟩
 |_=>exact hq.elim
end
end Go.Sy
