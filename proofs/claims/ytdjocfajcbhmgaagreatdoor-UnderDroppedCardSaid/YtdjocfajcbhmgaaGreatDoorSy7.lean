/- The symbolic layer, bundle Sy7. -/
import Derived.Test.YtdjocfajcbhmgaaGreatDoorSy6
set_option linter.unusedSimpArgs false
set_option linter.unusedVariables false
set_option linter.unusedSectionVars false
namespace Go.Sy
open Go.RowKit
section
variable {C:Ctx} {n:Nat} {eS:MM} {L:List Oper} {cq tm:TM} {l:List Oper} {o:Oper} {d i j:Nat} {s:ST}
def PX(C:Ctx)(n:Nat)(eS:MM)(L:List Oper)(tm:TM)(o:Oper):Prop:=
 ∃d s,o.dst=some d∧(d,s)∈tm∧
    ∀tm' mm',eO L tm o tm'→(∀q∈eS,q∈mm')→∀(a:Act) (w:World) (K:Act→World→Prop) (Q:Exit→Act→World→Prop),Has C n tm' mm' a w→
     (∀a' w',Has C n ((d,s)::bo tm' d) mm' a' w'→K a' w')→
     if Region.wanted o (yielded L.toArray a.tmps)then o.wp C.P a w K Q else K (a.put o.dst undef) w
theorem PX.grow(h:PX C n eS L tm o)(hd:o.dst≠some d)(hl:d∉aI L o):PX C n eS L ((d,s)::bo tm d) o:=by
 obtain⟨d',s',e1,e2,h⟩:=h
 exact⟨d',s',e1,ab _ (b9 e2 fun e=>hd (e▸e1)),fun tm' mm' hL=>h tm' mm' (hL.back hl)⟩
def lF{ι:Type}(C:Ctx)(n:Nat)(L:List Oper)(cN:TM)(ET:Nat→ι→TM)(MMx:Nat→ι→MM)(k:Nat)(x:ι)(o:Oper):Prop:=
 ∀(tm:TM) (a:Act) (w:World) (K:Act→World→Prop) (Q:Exit→Act→World→Prop),eO L cN o tm→(∀p∈ET k x,p∈tm)→Has C n tm (MMx k x) a w→
  (∀x' tm' a' w',(∀p∈cN,p∈tm→p∈tm')→(∀p∈ET (k+1) x',p∈tm')→Has C n tm' (MMx (k+1) x') a' w'→K a' w')→
  if Region.wanted o (yielded L.toArray a.tmps)then o.wp C.P a w K Q else K (a.put o.dst undef) w
def pZ(L:List Oper):Nat→Bool
 |0=>true
 |k+1=>match L.any (fun o=>eV (fi o.after.toList) k)with
  |true=>pZ L k
  |false=>false
theorem sr:∀{m:Nat},pZ L m=true→∀k,k < m→∃o∈L,k∈fi o.after.toList
 |0,_,k,hk=>by omega
 |m+1,h,k,hk=>by
  unfold pZ at h
  split at h
  ·rename_i ha
   by_cases VT:k=m
   ·subst VT
    obtain⟨o,ho,hm⟩:=cw.1 ha
    exact⟨o,ho,cD.1 hm⟩
   ·exact sr h k (by omega)
  ·cases h
def nP(L:List Oper):List Nat→Bool
 |[]=>true
 |[e]=>Nat.beq (e+1) L.length
 |e::f::r=>match qR L f with
  |some o=>match eV (fi o.after.toList) e with
   |true=>nP L (f::r)
   |false=>false
  |none=>false
theorem mi:∀{E:List Nat},nP L E=true→(∀k e f,E[k]? =some e→E[k+1]? =some f→∃o,L[f]? =some o∧e∈fi o.after.toList)∧(∀k e,E[k]? =some e→E.length=k+1→e+1=L.length)
 |[],_=>⟨fun k e f h=>by simp at h,fun k e h=>by simp at h⟩
 |[e],h=>⟨fun k e f h1 h2=>by simp at h2,fun k e' h1 h2=>by
    have:k=0:=by simp at h2;omega
    subst this
    simp at h1;subst h1
    exact aJ h⟩
 |e::f::r,h=>by
  unfold nP at h
  split at h
  ·rename_i o ho
   split at h
   ·rename_i hm
    obtain⟨h1,h2⟩:=mi h
    refine⟨fun k e' f' g1 g2=>?_,fun k e' g1 g2=>?_⟩
    ·cases k with
     |zero=>
      simp at g1 g2;subst g1 g2
      exact⟨o,by rw[←ln];exact ho,cD.1 hm⟩
     |succ k=>exact h1 k e' f' (by simpa using g1) (by simpa using g2)
    ·cases k with
     |zero=>simp at g2
     |succ k=>exact h2 k e' (by simpa using g1) (by simpa using g2)
   ·cases h
  ·cases h
def Hr(L:List Oper)(listed:Array Bool):Prop:=∀j o,L[j]? =some o→listed.getD j false=true→∀i∈fi o.after.toList,listed.getD i false=true
theorem PJ{ι:Type}{ET:Nat→ι→TM}{MMx:Nat→ι→MM}{cN:TM}{E:List Nat}{mmf:Nat→MM}(dL:∀(listed:Array Bool) (k:Nat),Hr L listed→(∀j e,E[j]? =some e→(listed.getD e false=true↔j < k))→∀i,i < L.length→i∉E→listed.getD i false=false→∀x,∀q∈mmf i,q∈MMx k x)(b6:kV L [] L 0=true)(hV:∀(i:Nat) (o:Oper),L[i]? =some o→i∉E→PX C n (mmf i) L cN o)
 (AW:∀p∈cN,∀q∈cN,p.1=q.1→p=q)(FE:E≠[])(xc:nP L E=true)
 (Xh:∀p∈cN,∀k e,E[k]? =some e→∀o,L[e]? =some o→o.dst=some p.1→∀x,p∈ET (k+1) x)
 (vr:∀k x,∀p∈ET k x,∃e∈E,∃o,L[e]? =some o∧o.dst=some p.1)
 (FF:∀k e o x,E[k]? =some e→L[e]? =some o→lF C n L cN ET MMx k x o)
 {P:TM→MM→Prop}(hP:∀x,P (cN++ET E.length x) (MMx E.length x)):
 ∀(fuel:Nat) (listed:Array Bool) (k:Nat) (x:ι) (a:Act) (w:World) (tm:TM),listed.size=L.length→(listed.toList.filter (!·)).length≤fuel→(∀p,mQ L listed cN p→p∈tm)→(∀p∈ET k x,p∈tm)→
  (∀j e,E[j]? =some e→(listed.getD e false=true↔j < k))→k≤E.length→(∀j o,L[j]? =some o→listed.getD j false=true→∀i∈fi o.after.toList,listed.getD i false=true)→Has C n tm (MMx k x) a w→
  wpAny C.P .any L.toArray (QT C n P) fuel listed a w:=by
 obtain⟨OS,Sd⟩:=mi xc
 have QD:0 < E.length:=fS.2 FE
 have Sm:∀e,E[E.length - 1]? =some e→e+1=L.length:=fun e he=>Sd _ e he (by omega)
 have kJ:∀(listed:Array Bool),listed.size=L.length→Region.ready .any L.toArray listed=[]→∀k,k < L.length→listed.getD k false=true:=by
  intro listed cM hr k
  induction k using Nat.strongRecOn with
  |_ k ih=>
   intro hk
   cases hl:listed.getD k false with
   |true=>rfl
   |false=>
    have dX:k∈Region.ready .any L.toArray listed:=by
     rw[mem_ready]
     refine⟨?_,L[k],by simp[hk],fun e he hb=>?_⟩
     ·have Lx:k < listed.size:=by omega
      simp[Array.getD,Lx]at hl⊢;exact hl
     ·obtain⟨_,h3⟩:=fv b6 k L[k] (aa hk)
      have:e.on∈fi L[k].after.toList:=by
       have key:∀l:List Edge,e∈l→e.on∈fi l:=by
        intro l
        induction l with
        |nil=>intro h;cases h
        |cons x l ih=>
         intro h
         unfold fi
         rcases ae.1 h with rfl|h
         ·rw[hb];exact ah
         ·split
          ·exact ab _ (ih h)
          ·exact ih h
       exact key _ (by simpa using he)
      have bj:=dz h3 _ this
      exact ih e.on (by omega) (by omega)
    rw[hr]at dX;cases dX
 have oZ:∀(listed:Array Bool) (k:Nat) (x:ι) (a:Act) (w:World) (tm:TM),listed.size=L.length→(∀p,mQ L listed cN p→p∈tm)→(∀p∈ET k x,p∈tm)→(∀j e,E[j]? =some e→(listed.getD e false=true↔j < k))→k≤E.length→Has C n tm (MMx k x) a w→Region.ready .any L.toArray listed=[]→QT C n P .normal a w:=by
  intro listed k x a w tm cM hk Dg cZ j7 hh hr
  have UH:k=E.length:=by
   rcases bJ k E.length with h|h
   ·have he:E[k]? =some E[k]:=aa h
    have bj:E[k] < L.length:=by
     rcases bJ E[k] L.length with h'|h'
     ·exact h'
     ·exfalso
      rcases bJ (k+1) E.length with h2|h2
      ·obtain⟨o,ho,qt⟩:=OS k _ _ he (aa h2)
       obtain⟨_,h3⟩:=fv b6 _ o ho
       have:=dz h3 _ qt
       have:=(ai.1 ho).1
       omega
      ·have:=Sd k _ he (by omega)
       omega
    have:=(cZ k _ he).1 (kJ listed cM hr _ bj)
    omega
   ·omega
  subst UH
  refine⟨_,_,hP x,hh.kX fun p hp=>?_⟩
  rcases aK.1 hp with hp|hp
  ·refine hk p ⟨hp,?_⟩
   by_cases hd:p.1∈bP L
   ·obtain⟨k,o,h1,h2⟩:=eI hd
    exact .inr ⟨k,o,h1,h2,kJ listed cM hr k (ai.1 h1).1⟩
   ·exact .inl hd
  ·exact Dg p hp
 intro fuel
 induction fuel with
 |zero=>
  intro listed k x a w tm cM hc hk Dg cZ j7 vp hh
  have hr:Region.ready .any L.toArray listed=[]:=by
   rw[cG]
   intro j hj
   obtain⟨h1,o,h2,_⟩:=mem_ready.1 hj
   have fg:j < listed.size:=by rw[cM];simpa using(bd.1 h2).1
   have:listed[j]=false:=by simpa[Array.getD,fg]using h1
   have hm:false∈listed.toList.filter (!·):=by
    rw[cn];exact⟨by rw[←this];simp,rfl⟩
   have:=dU hm
   omega
  exact⟨hr,oZ listed k x a w tm cM hk Dg cZ j7 hh hr⟩
 |succ fuel ih=>
  intro listed k x a w tm cM hc hk Dg cZ j7 vp hh
  refine⟨oZ listed k x a w tm cM hk Dg cZ j7 hh,fun i hi=>?_⟩
  obtain⟨h1,o,h2,h3⟩:=mem_ready.1 hi
  have hL:L[i]? =some o:=by simpa using h2
  have sb:i < L.length:=(ai.1 hL).1
  have mT:i < listed.size:=by omega
  have iO:listed[i]=false:=by simpa[Array.getD,mT]using h1
  have ia:listed.getD i false=false:=by simpa[Array.getD,mT]using iO
  obtain⟨hw,_⟩:=fv b6 i o hL
  have qt:∀j,j∈fi o.after.toList→listed.getD j false=true:=by
   have key:∀l:List Edge,(∀e∈l,e∈o.after)→∀j,j∈fi l→listed.getD j false=true:=by
    intro l
    induction l with
    |nil=>intro _ j h;simp[fi]at h
    |cons x l ih=>
     intro hl j h
     unfold fi at h
     split at h
     ·rename_i hb
      rcases ae.1 h with rfl|h
      ·exact h3 x (hl x ah) hb
      ·exact ih (fun e he=>hl e (ab _ he)) j h
     ·exact ih (fun e he=>hl e (ab _ he)) j h
   exact key _ (fun e he=>by simpa using he)
  have dn:eO L cN o tm:=by
   intro p hp hl
   refine hk p ⟨hp,?_⟩
   by_cases hd:p.1∈bP L
   ·obtain⟨k,o',k1,k2⟩:=eI hd
    have:=iK hw k o' p.1 k1 k2 hl
    exact .inr ⟨k,o',k1,k2,qt k (by simpa using this)⟩
   ·exact .inl hd
  have gp:((listed.setIfInBounds i true).toList.filter (!·)).length≤fuel:=by
   have h5:((listed.setIfInBounds i true).toList.filter (!·)).length+1=(listed.toList.filter (!·)).length:=by
    rw[show(listed.setIfInBounds i true).toList=listed.toList.set i true by simp]
    exact count_set (by simp[mT,iO])
   omega
  have j6:(listed.setIfInBounds i true).size=L.length:=by simpa using cM
  have other:∀k,k≠i→(listed.setIfInBounds i true).getD k false=listed.getD k false:=fun k hk=>getD_set_ne false (Ne.symm hk)
  have r8:(listed.setIfInBounds i true).getD i false=true:=gE mT
  have Bb:∀j o,L[j]? =some o→(listed.setIfInBounds i true).getD j false=true→∀q∈fi o.after.toList,(listed.setIfInBounds i true).getD q false=true:=by
   intro j o' dv hj q hq
   have rm:listed.getD q false=true:=by
    by_cases lz:j=i
    ·subst lz
     rw[hL]at dv;injection dv with dv;subst dv
     exact qt q hq
    ·rw[other j lz]at hj
     exact vp j o' dv hj q hq
   by_cases nv:q=i
   ·rw[nv];exact r8
   ·rw[other q nv];exact rm
  unfold wpOp
  simp only[b8,hL]
  have fin:∀{K:Prop} {W:Prop} [Decidable W] {A B:Prop},(if W then A else K)→(if W then A∨B else K):=by
   intro K W _ A B h
   split
   ·rename_i hw;rw[if_pos hw]at h;exact .inl h
   ·rename_i hw;rw[if_neg hw]at h;exact h
  refine fin ?_
  by_cases lg:i∈E
  ·
   obtain⟨j,hj,lz⟩:=aC.1 lg
   have Dr:E[j]? =some i:=by rw[aa hj,lz]
   have OJ:j=k:=by
    have g1:¬j < k:=fun h=>by
     have:=(cZ j i Dr).2 h
     rw[ia]at this;cases this
    rcases bI j k with h|h|h
    ·exact absurd h g1
    ·exact h
    ·exfalso
     obtain⟨j',rfl⟩:∃j',j=j'+1:=⟨j - 1,by omega⟩
     obtain⟨o',dv,qW⟩:=OS j' _ _ (aa (by omega)) Dr
     rw[hL]at dv;injection dv with dv;subst dv
     have:=(cZ j' _ (aa (by omega))).1 (qt _ qW)
     omega
   subst OJ
   refine FF j i o x Dr hL tm a w _ _ dn Dg hh fun x' tm' a' w' g1 g2 h'=>?_
   refine ih _ (j+1) x' a' w' tm' j6 gp (fun p hp=>?_) g2 (fun j' e' ma=>?_) (by omega) Bb h'
   ·obtain⟨A6,Lo⟩:=hp
    rcases Lo with Lo|⟨q,o',q1,q2,q3⟩
    ·exact g1 p A6 (hk p ⟨A6,.inl Lo⟩)
    ·by_cases nv:q=i
     ·rw[nv,hL]at q1;injection q1 with q1;subst q1
      exact g2 p (Xh p A6 j i Dr o hL q2 x')
     ·exact g1 p A6 (hk p ⟨A6,.inr ⟨q,o',q1,q2,by rwa [other q nv]at q3⟩⟩)
   ·by_cases he:e'=i
    ·subst he
     have A8:j'=j:=by
      have oU:∀p q (hp:p < E.length) (hq:q < E.length),p < q→E[p] < E[q]:=by
       intro p q hp hq kl
       induction q with
       |zero=>omega
       |succ q Uc=>
        obtain⟨o',dv,qW⟩:=OS q _ _ (aa (by omega)) (aa hq)
        obtain⟨_,h3⟩:=fv b6 _ o' dv
        have bj:=dz h3 _ qW
        by_cases Ll:p=q
        ·subst Ll;omega
        ·have:=Uc (by omega) (by omega);omega
      obtain⟨A9,UJ⟩:=ai.1 ma
      rcases bI j' j with h|h|h
      ·have:=oU _ _ A9 hj h;omega
      ·exact h
      ·have:=oU _ _ hj A9 h;omega
     subst A8
     simp[r8]
    ·rw[other _ he]
     have:=cZ j' e' ma
     have cV:j'≠j:=fun e=>he (by subst e;rw[Dr]at ma;injection ma with ma;exact ma.symm)
     rw[this];omega
  ·obtain⟨d,s,e1,e2,h⟩:=hV i o hL lg
   refine h tm (MMx k x) dn (dL listed k vp cZ i sb lg ia x) a w _ _ hh fun a' w' h'=>ih _ k x a' w' _ j6 gp (fun p hp=>?_) (fun p hp=>?_) (fun j' e' ma=>?_) j7 Bb h'
   ·obtain⟨g1,g2⟩:=hp
    by_cases tk:p.1=d
    ·have:p=(d,s):=AW p g1 (d,s) e2 tk
     rw[this];exact ah
    ·refine ab _ (b9 (hk p ⟨g1,?_⟩) tk)
     rcases g2 with g2|⟨q,o',q1,q2,q3⟩
     ·exact .inl g2
     ·refine .inr ⟨q,o',q1,q2,?_⟩
      have nv:q≠i:=by
       intro e;subst e
       rw[hL]at q1;injection q1 with q1;subst q1
       rw[e1]at q2;injection q2 with q2;exact tk q2.symm
      rwa [other q nv]at q3
   ·refine ab _ (b9 (Dg p hp) fun e=>?_)
    obtain⟨e',ma,o',dv,uX⟩:=vr k x p hp
    have cV:e'≠i:=fun q=>lg (q▸ma)
    rcases bI e' i with bj|heq|bj
    ·exact ew e1 b6 _ _ hL bj dv (by rw[uX,e])
    ·exact cV heq
    ·exact ew uX b6 _ _ dv bj hL (by rw[e1,e])
   ·rw[other _ (fun q=>lg (by rw[←q];exact aj ma))]
    exact cZ j' e' ma
theorem uy{E:List Nat}(b6:kV L [] L 0=true)(sC:pZ L (L.length - 1)=true)(xc:nP L E=true)(FE:E≠[]):
 ∀listed,Hr L listed→∀e,E[E.length - 1]? =some e→listed.getD e false=true→∀i,i < L.length→i∉E→listed.getD i false=true:=by
 intro listed vp e he hle k hk _
 have QD:0 < E.length:=fS.2 FE
 have Df:listed.getD (L.length - 1) false=true:=by
  have:=(mi xc).2 _ e he (by omega)
  rw[show L.length - 1=e by omega];exact hle
 have key:∀m,∀k,k+m=L.length - 1→listed.getD k false=true:=by
  intro m
  induction m using Nat.strongRecOn with
  |_ m ih=>
   intro k VT
   by_cases hm:m=0
   ·rw[show k=L.length - 1 by omega];exact Df
   ·obtain⟨o,ho,qt⟩:=sr sC k (by omega)
    obtain⟨j,hj,UI⟩:=aC.1 ho
    have QA:L[j]? =some o:=by rw[aa hj,UI]
    obtain⟨_,h3⟩:=fv b6 j o QA
    have bj:=dz h3 _ qt
    have:=ih (L.length - 1 - j) (by omega) j (by omega)
    exact vp j o QA this k qt
 exact key (L.length - 1 - k) k (by omega)
structure FS(C:Ctx)(n:Nat)(mmf:Nat→MM)(L:List Oper)(cq:TM)(E:List Nat)(ahead l:List Oper)(i:Nat)(tm:TM):Prop where
 ok:∀(j:Nat) (o:Oper),j < i→L[j]? =some o→j∉E→PX C n (mmf j) L tm o
 keys:∀p∈tm,∀q∈tm,p.1=q.1→p=q
 base:∀p∈tm,p.1∉bP L→p∈cq
 I9:kV L ahead l i=true
 whole:L=ahead.reverse++l
 len:ahead.length=i
 kd:∀p∈tm,p∈cq∨∃j o,j∉E∧L[j]? =some o∧o.dst=some p.1
def FOps(C:Ctx)(n:Nat)(mmf:Nat→MM)(L:List Oper)(cq:TM)(E:List Nat)(i:Nat)(l:List Oper)(tm:TM)(T:TM→Prop):Prop:=
 ∀(ahead:List Oper),FS C n mmf L cq E ahead l i tm→∃cN,T cN∧FS C n mmf L cq E L.reverse [] L.length cN
variable {E:List Nat} {T:TM→Prop} {mmf:Nat→MM}
theorem FOps.nil(h:T tm):FOps C n mmf L cq E i [] tm T:=fun ahead hs=>by
 have hL:L=ahead.reverse:=by have:=hs.whole;rwa [et]at this
 have hi:i=L.length:=by rw[hL,dZ,hs.len]
 have ha:ahead=L.reverse:=by rw[hL,List.reverse_reverse]
 subst hi
 rw[←ha]at *
 exact⟨tm,h,ha▸hs⟩
theorem FS.cur{ahead:List Oper}(hs:FS C n mmf L cq E ahead (o::l) i tm):L[i]? =some o:=by
 have h1:=hs.whole
 have h2:ahead.reverse.length=i:=by rw[dZ,hs.len]
 rw[h1,aN (by omega)]
 simp[h2]
theorem FS.before{ahead:List Oper}(hs:FS C n mmf L cq E ahead (o::l) i tm){o':Oper}(hj:j < i)(h:L[j]? =some o'):o'∈ahead:=by
 have h1:=hs.whole
 have h2:ahead.reverse.length=i:=by rw[dZ,hs.len]
 rw[h1,aw (by omega)]at h
 simpa using aj h
theorem FS.next{ahead:List Oper}(hs:FS C n mmf L cq E ahead (o::l) i tm)(hd:o.dst=some d)(lg:i∉E)(b6:d∉aI L o→PX C n (mmf i) L ((d,s)::bo tm d) o):
 FS C n mmf L cq E (o::ahead) l (i+1) ((d,s)::bo tm d):=by
 obtain⟨h2,h3,h4,h5⟩:=hU hs.I9
 obtain⟨h6,h7⟩:=h5 d hd
 have eA:o∈L:=by rw[hs.whole];simp
 refine⟨fun j o' hj dv OL=>?_,mP hs.keys,fun p hp hn=>?_,h4,by rw[hs.whole];simp,by simp[hs.len],fun p hp=>?_⟩
 ·by_cases lz:j=i
  ·subst lz
   rw[hs.cur]at dv;injection dv with dv;subst dv
   exact b6 h7
  ·have fg:j < i:=by omega
   obtain⟨k1,k2⟩:=eZ h6 o' (hs.before fg dv)
   exact(hs.ok j o' fg dv OL).grow k1 k2
 ·rcases ae.1 hp with rfl|hp
  ·exact absurd (eH eA hd) hn
  ·exact hs.base p (cj hp).1 hn
 ·rcases ae.1 hp with rfl|hp
  ·exact .inr ⟨i,o,lg,hs.cur,hd⟩
  ·exact hs.kd p (cj hp).1
theorem FOps.QG(lg:eV E i=true)(k:FOps C n mmf L cq E (i+1) l tm T):FOps C n mmf L cq E i (o::l) tm T:=fun ahead hs=>by
 obtain⟨h2,h3,h4,h5⟩:=hU hs.I9
 refine k _ ⟨fun j o' hj dv OL=>?_,hs.keys,hs.base,h4,by rw[hs.whole];simp,by simp[hs.len],hs.kd⟩
 by_cases lz:j=i
 ·subst lz;exact absurd (cD.1 lg) OL
 ·exact hs.ok j o' (by omega) dv OL
theorem wA{E:List Nat}{i:Nat}(h:eV E i=false):i∉E:=fun hk=>by rw[cD.2 hk]at h;cases h
theorem FOps.step(lg:eV E i=false)(hg:aY L (aX (aI L o) tm) o=some true)
 (h:∀mm',(∀q∈mmf i,q∈mm')→(∀p∈mm',∀q∈mm',p.1=q.1→p=q)→M8 C n mm' o (aX (aI L o) tm) d s)(hd:o.dst=some d)
 (k:FOps C n mmf L cq E (i+1) l ((d,s)::bo tm d) T):FOps C n mmf L cq E i (o::l) tm T:=fun ahead hs=>
 k _ (hs.next hd (wA lg) fun hl=>⟨d,s,hd,ah,fun tm' mm' hL hb a w K Q hh hK=>by
   have Be:eO L tm o tm':=hL.back hl
   rw[if_pos (eW hg Be hh)]
   exact(h mm' hb (o2 hh)).2 tm' (fun p hp=>Be p (dk.1 hp).1 (dk.1 hp).2) a w K Q hh hK⟩)
theorem FOps.skip(lg:eV E i=false)(hg:aY L (aX (aI L o) tm) o=some false)(hd:o.dst=some d)(hn:Nat.blt d n=true)
 (k:FOps C n mmf L cq E (i+1) l ((d,.fo [])::bo tm d) T):FOps C n mmf L cq E i (o::l) tm T:=fun ahead hs=>
 k _ (hs.next hd (wA lg) fun hl=>⟨d,_,hd,ah,fun tm' mm' hL hb a w K Q hh hK=>by
   have Be:eO L tm o tm':=hL.back hl
   rw[if_neg (by rw[eW hg Be hh];simp)]
   obtain⟨H,Z,hm⟩:=hh
   rw[hd]
   exact hK _ _ ⟨H,Z,hm.Ep (a6.mp hn) ⟨#[],rfl,rfl,fun j c hc=>by simp at hc⟩⟩⟩)
inductive PU where
 |stop (i:Nat)(l:List Oper)(tm:TM)
def Sv(Θ:da)(n:Nat)(mmf:Nat→MM)(L:List Oper)(E:List Nat):Nat→List Oper→TM→PU
 |i,[],tm=>.stop i [] tm
 |i,o::r,tm=>match eV E i with
  |true=>Sv Θ n mmf L E (i+1) r tm
  |false=>match aY L (aX (aI L o) tm) o with
   |some true=>match o.dst with
    |some d=>match vE Θ (aX (aI L o) tm) (mmf i) o.op with
     |some st=>match oC n d st tm with
      |some tm'=>Sv Θ n mmf L E (i+1) r tm'
      |none=>.stop i (o::r) tm
     |none=>.stop i (o::r) tm
    |none=>.stop i (o::r) tm
   |some false=>match o.dst with
    |some d=>match oC n d (.fo []) tm with
     |some tm'=>Sv Θ n mmf L E (i+1) r tm'
     |none=>.stop i (o::r) tm
    |none=>.stop i (o::r) tm
   |none=>.stop i (o::r) tm
theorem pU{Θ:da}(bt:a8 C.P Θ):∀{l:List Oper} {i:Nat} {tm:TM} {i':Nat} {l':List Oper} {tm':TM},
 Sv Θ n mmf L E i l tm=.stop i' l' tm'→FOps C n mmf L cq E i' l' tm' T→FOps C n mmf L cq E i l tm T
 |[],i,tm,i',l',tm',h,k=>by
  simp only[Sv,PU.stop.injEq]at h
  obtain⟨rfl,rfl,rfl⟩:=h
  exact k
 |o::r,i,tm,i',l',tm',h,k=>by
  have same:PU.stop i (o::r) tm=.stop i' l' tm'→FOps C n mmf L cq E i (o::r) tm T:=by
   intro e
   injection e with e1 e2 e3
   subst e1 e2 e3
   exact k
  unfold Sv at h
  split at h
  ·rename_i hE
   exact FOps.QG hE (pU bt h k)
  ·rename_i hE
   split at h
   ·rename_i hg
    split at h
    ·rename_i d hd
     split at h
     ·rename_i st hv
      split at h
      ·rename_i En hs
       obtain⟨hn,rfl⟩:=gm hs
       exact FOps.step hE hg (fun mm' hb hu=>(jU bt (qE (kr hb hu) hv) hd hn).Em) hd (pU bt h k)
      ·exact same h
     ·exact same h
    ·exact same h
   ·rename_i hg
    split at h
    ·rename_i d hd
     split at h
     ·rename_i En hs
      obtain⟨hn,rfl⟩:=gm hs
      exact FOps.skip hE hg hd hn (pU bt h k)
     ·exact same h
    ·exact same h
   ·exact same h
def TY(Θ:da)(n:Nat)(mmf:Nat→MM)(L:List Oper)(E:List Nat)(i:Nat)(l:List Oper)(tm:TM):Option PU:=
 match AM tm with
 |some tm'=>some (Sv Θ n mmf L E i l tm')
 |none=>none
theorem iY{Θ:da}(bt:a8 C.P Θ){i':Nat}{l':List Oper}{tm':TM}(h:TY Θ n mmf L E i l tm=some (.stop i' l' tm'))(k:FOps C n mmf L cq E i' l' tm' T):FOps C n mmf L cq E i l tm T:=by
 unfold TY at h
 split at h
 ·rename_i En h1
  rw[←pK h1]
  injection h with h
  exact pU bt h k
 ·cases h
def gY{ι:Type}(C:Ctx)(n:Nat)(L:List Oper)(cN:TM)(ET:Nat→ι→TM)(MMx:Nat→ι→MM):Nat→List Nat→Prop
 |_,[]=>True
 |k,e::r=>(∀o,qR L e=some o→∀x,lF C n L cN ET MMx k x o)∧gY C n L cN ET MMx (k+1) r
theorem gY.get{ι:Type}{cN:TM}{ET:Nat→ι→TM}{MMx:Nat→ι→MM}:∀{E:List Nat} {m:Nat},gY C n L cN ET MMx m E→∀k e o x,E[k]? =some e→L[e]? =some o→lF C n L cN ET MMx (m+k) x o
 |[],m,_,k,e,o,x,h,_=>by simp at h
 |e0::r,m,h,k,e,o,x,he,ho=>by
  cases k with
  |zero=>simp at he;subst he;exact h.1 o (by rw[ln];exact ho) x
  |succ k=>
   have:=gY.get h.2 k e o x (by simpa using he) ho
   rwa [show m+1+k=m+(k+1) by omega]at this
def HA(E:List Nat)(L:List Oper):TM→Bool
 |[]=>true
 |(t,_)::r=>match E.any (fun e=>match qR L e with|some o=>(match o.dst with|some d=>Nat.beq d t|none=>false)|none=>false)with
  |true=>HA E L r
  |false=>false
theorem sM:∀{l:TM},HA E L l=true→∀p∈l,∃e∈E,∃o,L[e]? =some o∧o.dst=some p.1
 |[],_,p,hp=>by cases hp
 |(t,s)::r,h,p,hp=>by
  unfold HA at h
  split at h
  ·rename_i ha
   rcases ae.1 hp with rfl|hp
   ·obtain⟨e,he,h2⟩:=cw.1 ha
    split at h2
    ·rename_i o ho
     split at h2
     ·rename_i d hd
      exact⟨e,he,o,by rw[←ln];exact ho,by rw[hd,aJ h2]⟩
     ·cases h2
    ·cases h2
   ·exact sM h p hp
  ·cases h
theorem LY{ι:Type}(mmf:Nat→MM)(E:List Nat)(ET:Nat→ι→TM)(MMx:Nat→ι→MM)(x0:ι){mm:MM}{f:FuncId}{Rr:Ending→World→Prop}{k:List Item}{id:Nat}(mq:C.P.follows .mixedOrders=true)
 (RW:MMx 0 x0=mm)(UZ:ET 0 x0=[])(vr:∀k x,HA E L (ET k x)=true)
 (b6:kV L [] L 0=true)(hu:rD (bP L) (gB (bP L) tm)=true)(FE:E≠[])(xc:nP L E=true)
 (dL:∀(listed:Array Bool) (k:Nat),Hr L listed→(∀j e,E[j]? =some e→(listed.getD e false=true↔j < k))→∀i,i < L.length→i∉E→listed.getD i false=false→∀x,∀q∈mmf i,q∈MMx k x)
 (h:FOps C n mmf L (gB (bP L) tm) E 0 L (gB (bP L) tm) fun cN=>gY C n L cN ET MMx 0 E∧∀x,Goes C f n Rr k (cN++ET E.length x) (MMx E.length x)):
 Goes C f n Rr (.code (.region id L.toArray true)::k) tm mm:=by
 refine Goes.mono (tm':=gB (bP L) tm) (mm':=mm) ?_ (fun _ _ hh=>hh.kX fun _ hp=>jG hp)
 obtain⟨u1,u2⟩:=jW hu
 intro a w hh b cs hb hk
 obtain⟨cN,⟨FF,hg⟩,hF⟩:=h [] ⟨fun j o hj=>(by omega),u2,fun p hp _=>hp,b6,rfl,rfl,fun p hp=>.inl hp⟩
 have jR:∀k,(Array.replicate L.length false).getD k false=false:=fun k=>by
  by_cases hk:k < L.length
  ·simp[Array.getD,hk]
  ·simp[Array.getD,hk]
 have o3:=PJ (P:=fun tm' mm'=>Goes C f n Rr k tm' mm') (mmf:=mmf) dL b6 (fun i o ho hi=>hF.ok i o (ai.1 ho).1 ho hi) hF.keys FE xc
  (fun p hp k0 e gv o ho hd=>by
    have he:=aj gv
    exfalso
    rcases hF.kd p hp with hn|⟨j,o',hj,dv,uX⟩
    ·exact u1 p hn (eH (aj ho) hd)
    ·rcases bI j e with bj|heq|bj
     ·exact absurd uX (ew hd b6 _ _ ho bj dv)
     ·subst heq;exact hj he
     ·exact absurd hd (ew uX b6 _ _ dv bj ho))
  (fun k x=>sM (vr k x)) (fun k e o x he ho=>by have:=FF.get k e o x he ho;rwa [fq]at this) hg L.length (Array.replicate L.length false) 0 x0 a {w with drawn:=w.drawn+1} (gB (bP L) tm) (by simp)
  (by rw[show(Array.replicate L.length false).toList=List.replicate L.length false by simp];exact dB (cR _ _) (by simp))
  (fun p hp=>by
    obtain⟨g1,g2|⟨k,o,k1,k2,k3⟩⟩:=hp
    ·exact hF.base p g1 g2
    ·rw[jR k]at k3;cases k3)
  (fun p hp=>by rw[UZ]at hp;cases hp)
  (fun j e _=>by rw[jR e];simp) (aF _) (fun j o _ hj=>by rw[jR j]at hj;cases hj) (by rw[RW];exact hh.drawn)
 have K9:=wp_region_any (id:=id) (Q:=QT C n (fun tm' mm'=>Goes C f n Rr k tm' mm')) (ops:=L.toArray) (a:=a) (w:=w) mq (by simpa using o3)
 obtain⟨e,a',w',hq,qi⟩:=K9 b k cs
 cases e with
 |normal=>
  obtain⟨tm',mm',hg,IC⟩:=hq
  obtain⟨e,yc,fr,g1,g2,g3⟩:=hg a' w' IC b cs hb hk
  exact⟨e,yc,fr,g1,Comes.of_steps qi g2,g3⟩
 |_=>exact hq.elim
def K1(d:Nat):TM→Bool
 |[]=>true
 |(t,_)::r=>match Nat.beq t d with
  |true=>false
  |false=>K1 d r
def Ai{ι:Type}(L:List Oper)(cN:TM)(ET:Nat→ι→TM):Nat→List Nat→Prop
 |_,[]=>True
 |k,e::r=>(∀o d,qR L e=some o→o.dst=some d→K1 d cN=true∨∃s,jD cN d=some s∧∀x,(d,s)∈ET (k+1) x)∧Ai L cN ET (k+1) r
theorem Ai.get{ι:Type}{cN:TM}{ET:Nat→ι→TM}:∀{E:List Nat} {m:Nat},Ai L cN ET m E→∀k e o d,E[k]? =some e→L[e]? =some o→o.dst=some d→K1 d cN=true∨∃s,jD cN d=some s∧∀x,(d,s)∈ET (m+k+1) x
 |[],m,_,k,e,o,d,h,_,_=>by simp at h
 |e0::r,m,h,k,e,o,d,he,ho,hd=>by
  cases k with
  |zero=>simp at he;subst he;exact h.1 o d (by rw[ln];exact ho) hd
  |succ k=>
   have:=Ai.get h.2 k e o d (by simpa using he) ho hd
   rwa [show m+1+k=m+(k+1) by omega]at this
theorem se{ι:Type}(E:List Nat)(ids:List Nat)(ET:Nat→ι→TM)(MMx:Nat→ι→MM)(x0:ι){mm:MM}{f:FuncId}{Rr:Ending→World→Prop}{k:List Item}{id:Nat}(mq:C.P.follows .mixedOrders=true)
 (RW:MMx 0 x0=mm)(xe:∀k x,k < E.length→∀q∈fO ids mm,q∈MMx k x)(UZ:ET 0 x0=[])(vr:∀k x,HA E L (ET k x)=true)
 (b6:kV L [] L 0=true)(hu:rD (bP L) (gB (bP L) tm)=true)(FE:E≠[])(sC:pZ L (L.length - 1)=true)(xc:nP L E=true)
 (h:FOps C n (fun _=>fO ids mm) L (gB (bP L) tm) E 0 L (gB (bP L) tm) fun cN=>gY C n L cN ET MMx 0 E∧∀x,Goes C f n Rr k (cN++ET E.length x) (MMx E.length x)):
 Goes C f n Rr (.code (.region id L.toArray true)::k) tm mm:=by
 have hE:=fS.2 FE
 refine LY (fun _=>fO ids mm) E ET MMx x0 mq RW UZ vr b6 hu FE xc (fun listed k vp cZ i hi lg hf x=>xe k x ?_) h
 rcases bJ k E.length with hk|hk
 ·exact hk
 ·exfalso
  have he:E[E.length - 1]? =some E[E.length - 1]:=aa (by omega)
  have:=uy b6 sC xc FE listed vp _ he ((cZ _ _ he).2 (by omega)) i hi lg
  rw[hf]at this;cases this
end
end Go.Sy
namespace Go.Sy
open Go.RowKit
section
variable {C:Ctx} {n:Nat} {tm tm':TM} {mm:MM} {o:Oper} {d:Nat}
theorem oy{l cs:List Value}{off N:Nat}(h:off+cs.length≤N)(hN:N≤l.length):
 (l.take off++cs++l.drop (off+cs.length)).take N=(l.take N).take off++cs++(l.take N).drop (off+cs.length):=by
 rw[bf,List.take_append,aO,yC (by omega),List.take_append,List.take_take,List.take_take,Nat.min_eq_right (by omega),yC (by omega),bC (show cs.length≤N - off by omega),bf]
 congr 2
 rw[List.drop_take]
 congr 1;omega
theorem HR{Θ:da}(bt:a8 C.P Θ){t:TypeId}{ti:fN}{x y:Operand}{i k j e sz:Nat}{qs:PQ}{v:Value}{xs:List (List CT)}{s:SV}{cs:List CT}
 (ho:o.op=.store t x y)(ht:aP Θ t=some ti)(hx:aQ tm x=some (.c (.val (lL v (j * sz)))))(hi:getM mm i=some (.bF e sz qs))(hk:qs[k]? =some (v,xs))(hj:j < xs.length)
 (hy:cx tm y=some s)(hc:iG s.cells=some cs)(cM:Nat.beq cs.length ti.size=true)(To:Nat.beq ti.size sz=true)(GQ:s.cells.all SC.known=true)(iJ:Nat.blt i given=true)(gA:eD i mm=true)(hd:o.dst=none):
 xX C n o tm mm (jF i tm) (cS mm i (.bF e sz (qs.set k (v,xs.set j cs)))):=by
 intro a w ⟨H,Z,hm⟩
 obtain⟨inf,de,hf⟩:=gI bt ht
 obtain⟨hH,c6⟩:=hm.mem _ (aT hi)
 have c6:eF w (cO C H mm) e sz qs:=c6
 obtain⟨us,dH,hlen,cC⟩:=c6.row hk
 have C5:=aV.gH (aU hm hx)
 have Uj:ti.size=sz:=aJ To
 have sC:cs.length=sz:=by rw[←Uj];exact aJ cM
 obtain⟨c1,c2⟩:=(c8 hm hy).cells hm GQ
 have xa:Pw (fun u c=>aV w (cO C H mm) u c) (a.eval y).cells.toList cs:=
  iF hc ⟨by simpa using c1,fun j c hc=>let⟨u,hu,_,hr⟩:=c2 j c hc;⟨u,by simpa using hu,hr⟩⟩
 have uU:∀v∈(a.eval y).cells.toList,v.oneCell'=true:=by
  intro v hv
  obtain⟨j,hj,R1⟩:=aC.1 hv
  have fg:j < cs.length:=by rw[←xa.1];exact hj
  obtain⟨u,hu,hr⟩:=xa.2 j cs[j] (aa fg)
  rw[aa hj,R1]at hu
  injection hu with hu
  rw[hu];exact hr.one
 have jB:(a.eval y).cells.toList.length=sz:=by rw[xa.1,sC]
 rcases dH.2 with⟨_,h0⟩|⟨g,cap,cur,hv,UN,qv,jC,kL,yv,ob⟩
 ·omega
 subst hv
 simp only[lL,jJ,fq]at C5
 have Qq:j * sz+sz≤xs.length * sz:=by
  have:=br sz (show j+1≤xs.length from hj)
  rw[ec]at this;omega
 have Qv:xs.length * sz≤cap * sz:=br _ jC
 have dL:=run_storeCells_at (P:=C.P) g (j * sz) e (a.eval y).cells.toList 0 cur w qv (by rw[jB,yv];omega) uU
 have mS:(a.eval y).cells.size=ti.size:=by rw[Uj,←jB];simp
 have jh:=setRow_heap w g cur (cur.toList.take (j * sz+0)++(a.eval y).cells.toList++cur.toList.drop (j * sz+0+(a.eval y).cells.toList.length)).toArray e (0,0) qv
 have dy:=ll w g (cur.toList.take (j * sz+0)++(a.eval y).cells.toList++cur.toList.drop (j * sz+0+(a.eval y).cells.toList.length)).toArray
 generalize Jc:w.setRow g (cur.toList.take (j * sz+0)++(a.eval y).cells.toList++cur.toList.drop (j * sz+0+(a.eval y).cells.toList.length)).toArray=w' at jh dy dL
 have uo:(Value.slice (some ⟨g,0,none⟩) xs.length cap,xs)∈qs:=aj hk
 have GJ:us=cur.toList.take (xs.length * sz):=ob.symm
 have Dk:cur.toList.length=cap * sz:=by simpa using yv
 refine .inr ⟨w',?_,Sy.jV H i (gg (qs.set k (.slice (some ⟨g,0,none⟩) xs.length cap,xs.set j cs))),Z,?_⟩
 ·simp only[execOp,ho,C5,Instr.storeAt,Instr.sureAddr,storeVar,Sem.run_bind,Sem.run_pure,Result.andThen_ok,hf.sizeOf,mS,ne_eq,not_true,if_false,dL]
 ·rw[hd]
  refine hm.vb hi (a6.mp iJ) gA (dy.yb fun b _ hb=>⟨_,uo,by rw[hb];rfl⟩) (by simpa[Act.put]using hm.defers) (by simp[Act.put,hm.size]) ?_ ?_ ?_
  ·intro q hq b dS
   rcases dt hq with hq|rfl
   ·exact .inl ⟨q,hq,dS⟩
   ·exact .inl ⟨_,uo,dS⟩
  ·intro M' iP gb
   refine c6.set hk ⟨us.take (j * sz)++(a.eval y).cells.toList++us.drop (j * sz+sz),⟨?_,.inr ⟨g,cap,_,by simp,UN,jh,by simpa using jC,kL,?_,?_⟩⟩,fun q hq=>?_,fun l q hq m ct qh=>?_⟩ dy.size
    (fun b hb cV=>dy.block b hb (fun e=>cV (by rw[e];rfl))) gb iP (fun b hb=>.inl hb)
   ·have qf:=dH.1
    rw[au,au,aO,dV,jB,qf,gO];omega
   ·rw[tT,au,au,aO,dV,jB,Dk];omega
   ·simp only[gO,qA]
    rw[oy (by rw[jB];omega) (by omega),ob,jB]
   ·rcases dt hq with hq|rfl
    ·exact hlen q hq
    ·exact sC
   ·have qf:us.length=xs.length * sz:=dH.1
    rw[cv]at hq
    have De:∀{q:List CT},q.length=sz→q[m]? =some ct→m < sz:=fun h1 h2=>by rw[←h1];exact(ai.1 h2).1
    split at hq
    ·rename_i fg;subst fg
     injection hq with hq;subst hq
     have Iv:=De sC qh
     obtain⟨u,hu,hr⟩:=xa.2 m ct qh
     refine⟨u,?_,aV.mono hr dy.size gb iP⟩
     rw[aw (by rw[au,aO,jB,qf];omega),aN (by rw[aO,qf];omega)]
     rw[←hu];congr 1;rw[aO,qf];omega
    ·rename_i fg
     have hl:l < xs.length:=(ai.1 hq).1
     have Iv:=De (hlen q (aj hq)) qh
     obtain⟨u,hu,hr⟩:=cC l q hq m ct qh
     refine⟨u,?_,aV.mono hr dy.size gb iP⟩
     rcases bJ l j with bj|UM
     ·have hle:l * sz+sz≤j * sz:=by
       have:=br sz (show l+1≤j from bj)
       rw[ec]at this;omega
      rw[bf,aw (by rw[aO,qf];omega),bU,if_pos (by omega)]
      exact hu
     ·have hle:j * sz+sz≤l * sz:=by
       have:=br sz (show j+1≤l by omega)
       rw[ec]at this;omega
      rw[aN (by rw[au,aO,jB,qf];omega),cf]
      rw[←hu];congr 1;rw[au,aO,jB,qf];omega
  ·intro p hp
   obtain⟨h1,h2⟩:=ja hp
   exact .inl ⟨p,h1,rfl,rfl,h2⟩
def gn(i:Nat):TM→Bool
 |[]=>true
 |(_,s)::r=>match eV s.bw i with
  |true=>false
  |false=>gn i r
theorem gi{i:Nat}:∀{l:TM},gn i l=true→∀p∈l,i∉p.2.bw
 |[],_,p,hp=>by cases hp
 |(t,s)::r,h,p,hp=>by
  unfold gn at h
  split at h
  ·cases h
  ·rename_i hm
   rcases ae.1 hp with rfl|hp
   ·exact fun hk=>by rw[cD.2 hk]at hm;cases hm
   ·exact gi h p hp
theorem Has.Od{a:Act}{w:World}(j e sz:Nat)(hj:Nat.blt j given=true)(hf:jj mm j=false)(h:Has C n tm mm a w):Has C n tm ((j,.bF e sz [])::mm) a w:=by
 obtain⟨H,Z,hm⟩:=h
 have BH:=fF hf
 have cV:∀q,cU mm q→q≠j:=fun q hq e=>BH (e▸hq)
 have eA:∀p∈mm,p.1≠j:=fun p hp=>cV p.1 ⟨p,hp,rfl⟩
 have hI:∀q,cU mm q→cU ((j,.bF e sz [])::mm) q:=fun q ⟨p,hp,e⟩=>⟨p,ab _ hp,e⟩
 have h0:∀b,¬Hb (gg []) b:=fun b hb=>by obtain⟨q,hq,_⟩:=dD.1 hb;cases hq
 refine⟨Sy.jV H j (gg []),Z,hm.build (fun _=>False) (Ext.refl _ _) (fun _ _ h=>h.elim) hm.defers hm.size ?_ ?_ ?_ ?_ ?_⟩
 ·intro p hp lN
  rcases ae.1 hp with rfl|hp
  ·have:=a6.mp hj;simp only at lN;omega
  ·rw[bG _ _ (eA p hp)];exact hm.hg p hp lN
 ·intro p hp q hq he
  rcases ae.1 hp with rfl|hp<;>rcases ae.1 hq with rfl|hq
  ·rfl
  ·exact absurd he.symm (eA q hq)
  ·exact absurd he (eA p hp)
  ·exact hm.ids p hp q hq he
 ·intro p hp
  rcases ae.1 hp with rfl|hp
  ·refine .inr ⟨fun b hb=>by rw[bm]at hb;exact absurd hb (h0 b),fun _ _=>⟨by rw[bm];rfl,fun k q hq=>by simp at hq,fun k l q r hq=>by simp at hq⟩⟩
  ·exact .inl ⟨hp,bG _ _ (eA p hp),rfl,fun _ _ hx=>hx,fun q _ hq=>⟨hI q hq,bG _ _ (cV q hq),rfl⟩⟩
 ·intro p hp q hq kl b c9 dS
  rcases ae.1 hp with rfl|hp<;>rcases ae.1 hq with rfl|hq
  ·exact kl J
  ·rw[bm]at c9;exact h0 b c9
  ·rw[bm]at dS;exact h0 b dS
  ·rw[bG _ _ (eA p hp)]at c9
   rw[bG _ _ (eA q hq)]at dS
   exact hm.sep p hp q hq kl b c9 dS
 ·intro p hp
  exact .inl ⟨p,hp,rfl,rfl,fun q _ hq=>⟨hI q hq,bG _ _ (cV q hq),rfl⟩⟩
theorem Has.Oc{a:Act}{w:World}{i e sz:Nat}{qs:PQ}(hi:getM mm i=some (.bF e sz qs))(iJ:Nat.blt i given=true)(gA:eD i mm=true)(qX:gn i tm=true)(h:Has C n tm mm a w):
 Has C n tm (cS mm i (.bF e sz (qs++[(.slice none 0 0,[])]))) a w:=by
 obtain⟨H,Z,hm⟩:=h
 refine⟨_,_,hm.vb (Z:=Z) hi (a6.mp iJ) gA (Ext.refl _ _) hm.defers hm.size (fun q hq b dS=>?_) (fun M' iP gb=>?_) (fun p hp=>.inl ⟨p,hp,rfl,rfl,gi qX p hp⟩)⟩
 ·rcases aK.1 hq with hq|hq
  ·exact .inl ⟨q,hq,dS⟩
  ·simp at hq;subst hq;cases dS
 ·obtain⟨_,c6⟩:=hm.mem _ (aT hi)
  have c6:eF w (cO C H mm) e sz qs:=c6
  refine⟨fun k q hq=>?_,fun k l q r hq hr j7 b dS wZ=>?_⟩
  ·rw[bX]at hq
   split at hq
   ·exact fp.mono (v:=q.1) (xs:=q.2) (c6.1 k q hq) (fun _ _=>rfl) (ay _) (fun _ _ _=>rfl) iP
   ·have:q=(.slice none 0 0,[]):=by
     have:=aj hq;simpa using this
    subst this
    exact fp.nil w M' e sz
  ·rw[bX]at hq hr
   split at hq
   ·split at hr
    ·exact c6.2 k l q r hq hr j7 b dS wZ
    ·have:r=(.slice none 0 0,[]):=by
      have:=aj hr;simpa using this
     subst this;cases wZ
   ·have:q=(.slice none 0 0,[]):=by
     have:=aj hq;simpa using this
    subst this;cases dS
theorem Has.Ro{i j:Nat}{cs:List SC}(hi:getM mm i=some (.box cs))(hj:s9 cs j=some (.c .bA)){a:Act}{w:World}(h:Has C n tm mm a w):
 Has C n tm (cS mm i (.box (oB cs j (.c (.val (.slice none 0 0)))))) a w:=by
 obtain⟨H,Z,hm⟩:=h
 obtain⟨b,ty,vs,h1,h2,h3,h4⟩:=hm.mem _ (aT hi)
 have GP:=aT hi
 refine⟨H,Z,hm.jV (b0:=b) ⟨_,GP,rfl⟩ (by rw[show H i=_ from h1];rfl) (Ext.refl _ _) hm.defers hm.size ?_ (fun q hq=>⟨hq,rfl⟩)⟩
 intro iP gb
 refine⟨b,ty,vs,h1,h2,by rw[h3,jq];simp,fun k c hc=>?_⟩
 rw[jq,cv]at hc
 have hI:∀j,cU mm j→cU (cS mm i (.box (oB cs j (.c (.val (.slice none 0 0)))))) j:=fun j hj=>(fT j).2 hj
 split at hc
 ·rename_i OJ;subst OJ
  split at hc
  ·injection hc with hc;subst hc
   rw[pJ]at hj
   obtain⟨u,hu,ho,hr⟩:=h4 j _ hj
   have:u=.slice none 0 0:=aV.jy hr
   subst this
   exact⟨_,hu,ho,aV.val _ J⟩
  ·cases hc
 ·obtain⟨u,hu,ho,hr⟩:=h4 k c hc
  exact⟨u,hu,ho,hr.mono (fun q _ hq=>⟨(fT q).2 hq,rfl,rfl⟩) (ay _) (fun _ _ _=>rfl) iP⟩
theorem Has.xu{a:Act}{w:World}(h:Has C n tm mm a w){i j e sz:Nat}{qs:PQ}{o o':MO}(km:Nat.beq i j=false)(hi:getM mm i=some (.bF e sz qs))(iJ:Nat.blt i given=true)(hj:getM mm j=some o)
 (gA:eD i mm=true)(qX:gn i tm=true)
 (qu:∀(I I':Nat→Prop) (H:Nat→Value) (Z:Nat→Nat) (w:World) (M M':Nat→Prop),(∀q∈o.bw,I q→I' q)→(∀b,b < w.heap.size→M' b→M b)→eF w M e sz qs→(∀q∈qs,∀b,hblk q.1=some b→¬M' b)→eG I H Z w M j o→eG I' H Z w M' j o'):
 Has C n tm (cS (fO [i] mm) j o') a w:=by
 obtain⟨H,Z,hm⟩:=h
 have cV:i≠j:=fun e=>by subst e;simp at km
 obtain⟨hH,c6⟩:=hm.mem _ (aT hi)
 have hH:H i=gg qs:=hH
 have c6:eF w (cO C H mm) e sz qs:=c6
 have C9:∀p∈cS (fO [i] mm) j o',(p=(j,o')∨(p∈mm∧p.1≠j))∧p.1≠i:=by
  intro p hp
  rcases cW p hp with⟨rfl,_⟩|⟨k1,k2⟩
  ·exact⟨.inl rfl,Ne.symm cV⟩
  ·obtain⟨g1,g2⟩:=eR.1 k1
   exact⟨.inr ⟨g1,k2⟩,by simpa using g2⟩
 have Bg:∀q,q≠i→cU mm q→cU (cS (fO [i] mm) j o') q:=fun q hq ⟨p,hp,e⟩=>(fT q).2 ⟨p,eR.2 ⟨hp,by simpa[e]using hq⟩,e⟩
 have hold:∀p∈cS (fO [i] mm) j o',∃q∈mm,q.1=p.1:=by
  intro p hp
  rcases(C9 p hp).1 with rfl|⟨k1,_⟩
  ·exact⟨_,aT hj,rfl⟩
  ·exact⟨p,k1,rfl⟩
 have hM:∀b,b < w.heap.size→cO C H (cS (fO [i] mm) j o') b→cO C H mm b:=by
  rintro b _ (hb|⟨p,hp,c9⟩)
  ·exact .inl hb
  ·obtain⟨q,hq,e⟩:=hold p hp
   exact .inr ⟨q,hq,by rw[e];exact c9⟩
 have WT:∀q∈qs,∀b,hblk q.1=some b→¬cO C H (cS (fO [i] mm) j o') b:=by
  rintro q hq b dS (hb|⟨p,hp,c9⟩)
  ·have hf:=hm.fresh _ (aT hi) b (by rw[show H (i,_).1=_ from hH];exact dD.2 ⟨q,hq,dS⟩)
   have:=hm.m0 b hb
   have:=a6.mp iJ
   rcases hf.1 with⟨_,h2|h2⟩|⟨h1,_⟩
   ·omega
   ·exact(C.hV b h2).2 hb
   ·simp only at h1;omega
  ·obtain⟨r,hr,e⟩:=hold p hp
   rw[←e]at c9
   exact hm.sep r hr _ (aT hi) (by rw[e];exact(C9 p hp).2) b c9 (by rw[show H (i,_).1=_ from hH];exact dD.2 ⟨q,hq,dS⟩)
 refine⟨H,Z,hm.defers,hm.size,hm.Oa,?_,hm.ext,hm.m0,?_,?_,?_,?_,?_⟩
 ·intro p hp lN
  obtain⟨q,hq,e⟩:=hold p hp
  rw[←e]at lN⊢
  exact hm.hg q hq lN
 ·intro p hp q hq he
  rcases(C9 p hp).1 with rfl|⟨k1,k2⟩<;>rcases(C9 q hq).1 with rfl|⟨D8,AY⟩
  ·rfl
  ·exact absurd he.symm AY
  ·exact absurd he k2
  ·exact hm.ids p k1 q D8 he
 ·intro p hp
  obtain⟨h1,h2⟩:=C9 p hp
  rcases h1 with rfl|⟨k1,k2⟩
  ·exact qu _ _ H Z w _ _ (fun q hq Bf=>Bg q (fun e=>fD gA (aT hj) (e▸hq)) Bf) hM c6 WT (hm.mem _ (aT hj))
  ·exact(hm.mem p k1).mono ⟨rfl,rfl⟩ (fun _ _=>rfl) (fun q hq Bf=>⟨Bg q (fun e=>fD gA k1 (e▸hq)) Bf,rfl,rfl⟩) (ay _) (fun _ _ _=>rfl) hM
 ·intro p hp b hb
  obtain⟨q,hq,e⟩:=hold p hp
  rw[←e]at hb⊢
  exact hm.fresh q hq b hb
 ·intro p hp q hq kl b c9
  obtain⟨p',sa,e1⟩:=hold p hp
  obtain⟨q',rm,e2⟩:=hold q hq
  rw[←e1]at c9
  rw[←e2]
  exact hm.sep p' sa q' rm (by rw[e1,e2];exact kl) b c9
 ·intro p hp
  exact(hm.tmps p hp).mono (fun q hq Bf=>⟨Bg q (fun e=>gi qX p hp (e▸hq)) Bf,rfl,rfl⟩) (ay _) (fun _ _ _=>rfl) hM
theorem Has.O9{a:Act}{w:World}(i j c:Nat){e sz:Nat}{v:Value}{xs:List (List CT)}{cs:List SC}(km:Nat.beq i j=false)(hi:getM mm i=some (.bF e sz [(v,xs)]))(iJ:Nat.blt i given=true)(hj:getM mm j=some (.box cs))
 (hc:s9 cs c=some (.c (.val v)))(gA:eD i mm=true)(qX:gn i tm=true)(h:Has C n tm mm a w):
 Has C n tm (cS (fO [i] mm) j (.box (oB cs c (.c (.slice false sz xs))))) a w:=by
 refine h.xu km hi iJ hj gA qX fun I I' H Z w M M' hI hM hp hn dX=>?_
 obtain⟨b,ty,vs,h1,h2,h3,h4⟩:=dX
 refine⟨b,ty,vs,h1,h2,by rw[h3,jq];simp,fun k ct hk=>?_⟩
 rw[jq,cv]at hk
 split at hk
 ·rename_i ZJ;subst ZJ
  split at hk
  ·injection hk with hk;subst hk
   rw[pJ]at hc
   obtain⟨u,hu,ho,hr⟩:=h4 c _ hc
   have:u=v:=aV.gH hr
   subst this
   exact⟨u,hu,ho,(hp.row (k:=0) J).frozen hM (hn _ ah)⟩
  ·cases hk
 ·obtain⟨u,hu,ho,hr⟩:=h4 k ct hk
  exact⟨u,hu,ho,hr.mono (fun q hq Bf=>⟨hI q (by simp only[MO.bw,bu];exact⟨ct,aj hk,hq⟩) Bf,rfl,rfl⟩) (ay _) (fun _ _ _=>rfl) hM⟩
end
end Go.Sy
