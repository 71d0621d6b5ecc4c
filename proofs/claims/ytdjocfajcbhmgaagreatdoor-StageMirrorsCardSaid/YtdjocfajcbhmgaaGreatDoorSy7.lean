/- The symbolic layer, bundle Sy7. -/
import Derived.Test.YtdjocfajcbhmgaaGreatDoorSy6
set_option linter.unusedSimpArgs false
set_option linter.unusedVariables false
set_option linter.unusedSectionVars false
namespace Go.Sy
open Go.RowKit
section
variable {C:Ctx} {n:Nat} {eh:MM} {L:List Oper} {cp tm:TM} {l:List Oper} {o:Oper} {d i j:Nat} {s:ST}
def MP(C:Ctx)(n:Nat)(eh:MM)(L:List Oper)(tm:TM)(o:Oper):Prop:=
 ∃d s,o.dst=some d∧(d,s)∈tm∧
    ∀tm' mm',eN L tm o tm'→(∀q∈eh,q∈mm')→∀(a:Act) (w:World) (K:Act→World→Prop) (Q:Exit→Act→World→Prop),Has C n tm' mm' a w→
     (∀a' w',Has C n ((d,s)::bw tm' d) mm' a' w'→K a' w')→
     if Region.wanted o (yielded L.toArray a.tmps)then o.wp C.P a w K Q else K (a.put o.dst undef) w
theorem MP.grow(h:MP C n eh L tm o)(hd:o.dst≠some d)(hl:d∉aK L o):MP C n eh L ((d,s)::bw tm d) o:=by
 obtain⟨d',s',e1,e2,h⟩:=h
 exact⟨d',s',e1,ab _ (cd e2 fun e=>hd (e▸e1)),fun tm' mm' hL=>h tm' mm' (hL.back hl)⟩
def o8{ι:Type}(C:Ctx)(n:Nat)(L:List Oper)(dc:TM)(ET:Nat→ι→TM)(ic:Nat→ι→MM)(k:Nat)(x:ι)(o:Oper):Prop:=
 ∀(tm:TM) (a:Act) (w:World) (K:Act→World→Prop) (Q:Exit→Act→World→Prop),eN L dc o tm→(∀p∈ET k x,p∈tm)→Has C n tm (ic k x) a w→
  (∀x' tm' a' w',(∀p∈dc,p∈tm→p∈tm')→(∀p∈ET (k+1) x',p∈tm')→Has C n tm' (ic (k+1) x') a' w'→K a' w')→
  if Region.wanted o (yielded L.toArray a.tmps)then o.wp C.P a w K Q else K (a.put o.dst undef) w
def qJ(L:List Oper):Nat→Bool
 |0=>true
 |k+1=>match L.any (fun o=>fw (fz o.after.toList) k)with
  |true=>qJ L k
  |false=>false
theorem qI:∀{m:Nat},qJ L m=true→∀k,k < m→∃o∈L,k∈fz o.after.toList
 |0,_,k,hk=>by omega
 |m+1,h,k,hk=>by
  unfold qJ at h
  split at h
  ·rename_i ha
   by_cases RY:k=m
   ·subst RY
    obtain⟨o,ho,hm⟩:=cu.1 ha
    exact⟨o,ho,cz.1 hm⟩
   ·exact qI h k (by omega)
  ·cases h
def pH(L:List Oper):List Nat→Bool
 |[]=>true
 |[e]=>Nat.beq (e+1) L.length
 |e::f::r=>match rE L f with
  |some o=>match fw (fz o.after.toList) e with
   |true=>pH L (f::r)
   |false=>false
  |none=>false
theorem nQ:∀{E:List Nat},pH L E=true→(∀k e f,E[k]? =some e→E[k+1]? =some f→∃o,L[f]? =some o∧e∈fz o.after.toList)∧(∀k e,E[k]? =some e→E.length=k+1→e+1=L.length)
 |[],_=>⟨fun k e f h=>by simp at h,fun k e h=>by simp at h⟩
 |[e],h=>⟨fun k e f h1 h2=>by simp at h2,fun k e' h1 h2=>by
    have:k=0:=by simp at h2;omega
    subst this
    simp at h1;subst h1
    exact aR h⟩
 |e::f::r,h=>by
  unfold pH at h
  split at h
  ·rename_i o ho
   split at h
   ·rename_i hm
    obtain⟨h1,h2⟩:=nQ h
    refine⟨fun k e' f' g1 g2=>?_,fun k e' g1 g2=>?_⟩
    ·cases k with
     |zero=>
      simp at g1 g2;subst g1 g2
      exact⟨o,by rw[←nx];exact ho,cz.1 hm⟩
     |succ k=>exact h1 k e' f' (by simpa using g1) (by simpa using g2)
    ·cases k with
     |zero=>simp at g2
     |succ k=>exact h2 k e' (by simpa using g1) (by simpa using g2)
   ·cases h
  ·cases h
def Js(L:List Oper)(listed:Array Bool):Prop:=∀j o,L[j]? =some o→listed.getD j false=true→∀i∈fz o.after.toList,listed.getD i false=true
theorem LN{ι:Type}{ET:Nat→ι→TM}{ic:Nat→ι→MM}{dc:TM}{E:List Nat}{mmf:Nat→MM}(dQ:∀(listed:Array Bool) (k:Nat),Js L listed→(∀j e,E[j]? =some e→(listed.getD e false=true↔j < k))→∀i,i < L.length→i∉E→listed.getD i false=false→∀x,∀q∈mmf i,q∈ic k x)(b7:kX L [] L 0=true)(hV:∀(i:Nat) (o:Oper),L[i]? =some o→i∉E→MP C n (mmf i) L dc o)
 (Cl:∀p∈dc,∀q∈dc,p.1=q.1→p=q)(Lc:E≠[])(DW:pH L E=true)
 (Wh:∀p∈dc,∀k e,E[k]? =some e→∀o,L[e]? =some o→o.dst=some p.1→∀x,p∈ET (k+1) x)
 (CH:∀k x,∀p∈ET k x,∃e∈E,∃o,L[e]? =some o∧o.dst=some p.1)
 (Oz:∀k e o x,E[k]? =some e→L[e]? =some o→o8 C n L dc ET ic k x o)
 {P:TM→MM→Prop}(hP:∀x,P (dc++ET E.length x) (ic E.length x)):
 ∀(fuel:Nat) (listed:Array Bool) (k:Nat) (x:ι) (a:Act) (w:World) (tm:TM),listed.size=L.length→(listed.toList.filter (!·)).length≤fuel→(∀p,nD L listed dc p→p∈tm)→(∀p∈ET k x,p∈tm)→
  (∀j e,E[j]? =some e→(listed.getD e false=true↔j < k))→k≤E.length→(∀j o,L[j]? =some o→listed.getD j false=true→∀i∈fz o.after.toList,listed.getD i false=true)→Has C n tm (ic k x) a w→
  wpAny C.P .any L.toArray (QT C n P) fuel listed a w:=by
 obtain⟨TS,U2⟩:=nQ DW
 have Q8:0 < E.length:=fq.2 Lc
 have hElast:∀e,E[E.length - 1]? =some e→e+1=L.length:=fun e he=>U2 _ e he (by omega)
 have nH:∀(listed:Array Bool),listed.size=L.length→Region.ready .any L.toArray listed=[]→∀k,k < L.length→listed.getD k false=true:=by
  intro listed c8 hr k
  induction k using Nat.strongRecOn with
  |_ k ih=>
   intro hk
   cases hl:listed.getD k false with
   |true=>rfl
   |false=>
    have dL:k∈Region.ready .any L.toArray listed:=by
     rw[mem_ready]
     refine⟨?_,L[k],by simp[hk],fun e he hb=>?_⟩
     ·have K3:k < listed.size:=by omega
      simp[Array.getD,K3]at hl⊢;exact hl
     ·obtain⟨_,h3⟩:=gU b7 k L[k] (aa hk)
      have:e.on∈fz L[k].after.toList:=by
       have key:∀l:List Edge,e∈l→e.on∈fz l:=by
        intro l
        induction l with
        |nil=>intro h;cases h
        |cons x l ih=>
         intro h
         unfold fz
         rcases ae.1 h with rfl|h
         ·rw[hb];exact ah
         ·split
          ·exact ab _ (ih h)
          ·exact ih h
       exact key _ (by simpa using he)
      have bo:=dR h3 _ this
      exact ih e.on (by omega) (by omega)
    rw[hr]at dL;cases dL
 have sw:∀(listed:Array Bool) (k:Nat) (x:ι) (a:Act) (w:World) (tm:TM),listed.size=L.length→(∀p,nD L listed dc p→p∈tm)→(∀p∈ET k x,p∈tm)→(∀j e,E[j]? =some e→(listed.getD e false=true↔j < k))→k≤E.length→Has C n tm (ic k x) a w→Region.ready .any L.toArray listed=[]→QT C n P .normal a w:=by
  intro listed k x a w tm c8 hk Ob eu kl hh hr
  have Tm:k=E.length:=by
   rcases cn k E.length with h|h
   ·have he:E[k]? =some E[k]:=aa h
    have bo:E[k] < L.length:=by
     rcases cn E[k] L.length with h'|h'
     ·exact h'
     ·exfalso
      rcases cn (k+1) E.length with h2|h2
      ·obtain⟨o,ho,sQ⟩:=TS k _ _ he (aa h2)
       obtain⟨_,h3⟩:=gU b7 _ o ho
       have:=dR h3 _ sQ
       have:=(ai.1 ho).1
       omega
      ·have:=U2 k _ he (by omega)
       omega
    have:=(eu k _ he).1 (nH listed c8 hr _ bo)
    omega
   ·omega
  subst Tm
  refine⟨_,_,hP x,hh.lA fun p hp=>?_⟩
  rcases aQ.1 hp with hp|hp
  ·refine hk p ⟨hp,?_⟩
   by_cases hd:p.1∈bV L
   ·obtain⟨k,o,h1,h2⟩:=eY hd
    exact .inr ⟨k,o,h1,h2,nH listed c8 hr k (ai.1 h1).1⟩
   ·exact .inl hd
  ·exact Ob p hp
 intro fuel
 induction fuel with
 |zero=>
  intro listed k x a w tm c8 hc hk Ob eu kl AJ hh
  have hr:Region.ready .any L.toArray listed=[]:=by
   rw[cW]
   intro j hj
   obtain⟨h1,o,h2,_⟩:=mem_ready.1 hj
   have eC:j < listed.size:=by rw[c8];simpa using(bu.1 h2).1
   have:listed[j]=false:=by simpa[Array.getD,eC]using h1
   have hm:false∈listed.toList.filter (!·):=by
    rw[cI];exact⟨by rw[←this];simp,rfl⟩
   have:=fB hm
   omega
  exact⟨hr,sw listed k x a w tm c8 hk Ob eu kl hh hr⟩
 |succ fuel ih=>
  intro listed k x a w tm c8 hc hk Ob eu kl AJ hh
  refine⟨sw listed k x a w tm c8 hk Ob eu kl hh,fun i hi=>?_⟩
  obtain⟨h1,o,h2,h3⟩:=mem_ready.1 hi
  have hL:L[i]? =some o:=by simpa using h2
  have vK:i < L.length:=(ai.1 hL).1
  have ng:i < listed.size:=by omega
  have j2:listed[i]=false:=by simpa[Array.getD,ng]using h1
  have lq:listed.getD i false=false:=by simpa[Array.getD,ng]using j2
  obtain⟨hw,_⟩:=gU b7 i o hL
  have sQ:∀j,j∈fz o.after.toList→listed.getD j false=true:=by
   have key:∀l:List Edge,(∀e∈l,e∈o.after)→∀j,j∈fz l→listed.getD j false=true:=by
    intro l
    induction l with
    |nil=>intro _ j h;simp[fz]at h
    |cons x l ih=>
     intro hl j h
     unfold fz at h
     split at h
     ·rename_i hb
      rcases ae.1 h with rfl|h
      ·exact h3 x (hl x ah) hb
      ·exact ih (fun e he=>hl e (ab _ he)) j h
     ·exact ih (fun e he=>hl e (ab _ he)) j h
   exact key _ (fun e he=>by simpa using he)
  have dp:eN L dc o tm:=by
   intro p hp hl
   refine hk p ⟨hp,?_⟩
   by_cases hd:p.1∈bV L
   ·obtain⟨k,o',k1,k2⟩:=eY hd
    have:=jq hw k o' p.1 k1 k2 hl
    exact .inr ⟨k,o',k1,k2,sQ k (by simpa using this)⟩
   ·exact .inl hd
  have iq:((listed.setIfInBounds i true).toList.filter (!·)).length≤fuel:=by
   have h5:((listed.setIfInBounds i true).toList.filter (!·)).length+1=(listed.toList.filter (!·)).length:=by
    rw[show(listed.setIfInBounds i true).toList=listed.toList.set i true by simp]
    exact count_set (by simp[ng,j2])
   omega
  have jY:(listed.setIfInBounds i true).size=L.length:=by simpa using c8
  have other:∀k,k≠i→(listed.setIfInBounds i true).getD k false=listed.getD k false:=fun k hk=>getD_set_ne false (Ne.symm hk)
  have qp:(listed.setIfInBounds i true).getD i false=true:=gZ ng
  have Ir:∀j o,L[j]? =some o→(listed.setIfInBounds i true).getD j false=true→∀q∈fz o.after.toList,(listed.setIfInBounds i true).getD q false=true:=by
   intro j o' dX hj q hq
   have pO:listed.getD q false=true:=by
    by_cases jc:j=i
    ·subst jc
     rw[hL]at dX;injection dX with dX;subst dX
     exact sQ q hq
    ·rw[other j jc]at hj
     exact AJ j o' dX hj q hq
   by_cases lC:q=i
   ·rw[lC];exact qp
   ·rw[other q lC];exact pO
  unfold wpOp
  simp only[cB,hL]
  have fin:∀{K:Prop} {W:Prop} [Decidable W] {A B:Prop},(if W then A else K)→(if W then A∨B else K):=by
   intro K W _ A B h
   split
   ·rename_i hw;rw[if_pos hw]at h;exact .inl h
   ·rename_i hw;rw[if_neg hw]at h;exact h
  refine fin ?_
  by_cases rN:i∈E
  ·
   obtain⟨j,hj,jc⟩:=aB.1 rN
   have JF:E[j]? =some i:=by rw[aa hj,jc]
   have Oe:j=k:=by
    have g1:¬j < k:=fun h=>by
     have:=(eu j i JF).2 h
     rw[lq]at this;cases this
    rcases cv j k with h|h|h
    ·exact absurd h g1
    ·exact h
    ·exfalso
     obtain⟨j',rfl⟩:∃j',j=j'+1:=⟨j - 1,by omega⟩
     obtain⟨o',dX,Cw⟩:=TS j' _ _ (aa (by omega)) JF
     rw[hL]at dX;injection dX with dX;subst dX
     have:=(eu j' _ (aa (by omega))).1 (sQ _ Cw)
     omega
   subst Oe
   refine Oz j i o x JF hL tm a w _ _ dp Ob hh fun x' tm' a' w' g1 g2 h'=>?_
   refine ih _ (j+1) x' a' w' tm' jY iq (fun p hp=>?_) g2 (fun j' e' vL=>?_) (by omega) Ir h'
   ·obtain⟨KV,N1⟩:=hp
    rcases N1 with N1|⟨q,o',q1,q2,q3⟩
    ·exact g1 p KV (hk p ⟨KV,.inl N1⟩)
    ·by_cases lC:q=i
     ·rw[lC,hL]at q1;injection q1 with q1;subst q1
      exact g2 p (Wh p KV j i JF o hL q2 x')
     ·exact g1 p KV (hk p ⟨KV,.inr ⟨q,o',q1,q2,by rwa [other q lC]at q3⟩⟩)
   ·by_cases he:e'=i
    ·subst he
     have Fi:j'=j:=by
      have o4:∀p q (hp:p < E.length) (hq:q < E.length),p < q→E[p] < E[q]:=by
       intro p q hp hq jl
       induction q with
       |zero=>omega
       |succ q SI=>
        obtain⟨o',dX,Cw⟩:=TS q _ _ (aa (by omega)) (aa hq)
        obtain⟨_,h3⟩:=gU b7 _ o' dX
        have bo:=dR h3 _ Cw
        by_cases NX:p=q
        ·subst NX;omega
        ·have:=SI (by omega) (by omega);omega
      obtain⟨AI,Tq⟩:=ai.1 vL
      rcases cv j' j with h|h|h
      ·have:=o4 _ _ AI hj h;omega
      ·exact h
      ·have:=o4 _ _ hj AI h;omega
     subst Fi
     simp[qp]
    ·rw[other _ he]
     have:=eu j' e' vL
     have cj:j'≠j:=fun e=>he (by subst e;rw[JF]at vL;injection vL with vL;exact vL.symm)
     rw[this];omega
  ·obtain⟨d,s,e1,e2,h⟩:=hV i o hL rN
   refine h tm (ic k x) dp (dQ listed k AJ eu i vK rN lq x) a w _ _ hh fun a' w' h'=>ih _ k x a' w' _ jY iq (fun p hp=>?_) (fun p hp=>?_) (fun j' e' vL=>?_) kl Ir h'
   ·obtain⟨g1,g2⟩:=hp
    by_cases uA:p.1=d
    ·have:p=(d,s):=Cl p g1 (d,s) e2 uA
     rw[this];exact ah
    ·refine ab _ (cd (hk p ⟨g1,?_⟩) uA)
     rcases g2 with g2|⟨q,o',q1,q2,q3⟩
     ·exact .inl g2
     ·refine .inr ⟨q,o',q1,q2,?_⟩
      have lC:q≠i:=by
       intro e;subst e
       rw[hL]at q1;injection q1 with q1;subst q1
       rw[e1]at q2;injection q2 with q2;exact uA q2.symm
      rwa [other q lC]at q3
   ·refine ab _ (cd (Ob p hp) fun e=>?_)
    obtain⟨e',vL,o',dX,F0⟩:=CH k x p hp
    have cj:e'≠i:=fun q=>rN (q▸vL)
    rcases cv e' i with bo|heq|bo
    ·exact jy e1 b7 _ _ hL bo dX (by rw[F0,e])
    ·exact cj heq
    ·exact jy F0 b7 _ _ dX bo hL (by rw[e1,e])
   ·rw[other _ (fun q=>rN (by rw[←q];exact an vL))]
    exact eu j' e' vL
theorem AX{E:List Nat}(b7:kX L [] L 0=true)(vi:qJ L (L.length - 1)=true)(DW:pH L E=true)(Lc:E≠[]):
 ∀listed,Js L listed→∀e,E[E.length - 1]? =some e→listed.getD e false=true→∀i,i < L.length→i∉E→listed.getD i false=true:=by
 intro listed AJ e he hle k hk _
 have Q8:0 < E.length:=fq.2 Lc
 have Ij:listed.getD (L.length - 1) false=true:=by
  have:=(nQ DW).2 _ e he (by omega)
  rw[show L.length - 1=e by omega];exact hle
 have key:∀m,∀k,k+m=L.length - 1→listed.getD k false=true:=by
  intro m
  induction m using Nat.strongRecOn with
  |_ m ih=>
   intro k RY
   by_cases hm:m=0
   ·rw[show k=L.length - 1 by omega];exact Ij
   ·obtain⟨o,ho,sQ⟩:=qI vi k (by omega)
    obtain⟨j,hj,QS⟩:=aB.1 ho
    have MA:L[j]? =some o:=by rw[aa hj,QS]
    obtain⟨_,h3⟩:=gU b7 j o MA
    have bo:=dR h3 _ sQ
    have:=ih (L.length - 1 - j) (by omega) j (by omega)
    exact AJ j o MA this k sQ
 exact key (L.length - 1 - k) k (by omega)
structure FS(C:Ctx)(n:Nat)(mmf:Nat→MM)(L:List Oper)(cp:TM)(E:List Nat)(ahead l:List Oper)(i:Nat)(tm:TM):Prop where
 ok:∀(j:Nat) (o:Oper),j < i→L[j]? =some o→j∉E→MP C n (mmf j) L tm o
 keys:∀p∈tm,∀q∈tm,p.1=q.1→p=q
 base:∀p∈tm,p.1∉bV L→p∈cp
 FO:kX L ahead l i=true
 whole:L=ahead.reverse++l
 len:ahead.length=i
 kd:∀p∈tm,p∈cp∨∃j o,j∉E∧L[j]? =some o∧o.dst=some p.1
def FOps(C:Ctx)(n:Nat)(mmf:Nat→MM)(L:List Oper)(cp:TM)(E:List Nat)(i:Nat)(l:List Oper)(tm:TM)(T:TM→Prop):Prop:=
 ∀(ahead:List Oper),FS C n mmf L cp E ahead l i tm→∃dc,T dc∧FS C n mmf L cp E L.reverse [] L.length dc
variable {E:List Nat} {T:TM→Prop} {mmf:Nat→MM}
theorem FOps.nil(h:T tm):FOps C n mmf L cp E i [] tm T:=fun ahead hs=>by
 have hL:L=ahead.reverse:=by have:=hs.whole;rwa [cV]at this
 have hi:i=L.length:=by rw[hL,dE,hs.len]
 have ha:ahead=L.reverse:=by rw[hL,List.reverse_reverse]
 subst hi
 rw[←ha]at *
 exact⟨tm,h,ha▸hs⟩
theorem FS.cur{ahead:List Oper}(hs:FS C n mmf L cp E ahead (o::l) i tm):L[i]? =some o:=by
 have h1:=hs.whole
 have h2:ahead.reverse.length=i:=by rw[dE,hs.len]
 rw[h1,aO (by omega)]
 simp[h2]
theorem FS.before{ahead:List Oper}(hs:FS C n mmf L cp E ahead (o::l) i tm){o':Oper}(hj:j < i)(h:L[j]? =some o'):o'∈ahead:=by
 have h1:=hs.whole
 have h2:ahead.reverse.length=i:=by rw[dE,hs.len]
 rw[h1,aG (by omega)]at h
 simpa using an h
theorem FS.next{ahead:List Oper}(hs:FS C n mmf L cp E ahead (o::l) i tm)(hd:o.dst=some d)(rN:i∉E)(b7:d∉aK L o→MP C n (mmf i) L ((d,s)::bw tm d) o):
 FS C n mmf L cp E (o::ahead) l (i+1) ((d,s)::bw tm d):=by
 obtain⟨h2,h3,h4,h5⟩:=gv hs.FO
 obtain⟨h6,h7⟩:=h5 d hd
 have eL:o∈L:=by rw[hs.whole];simp
 refine⟨fun j o' hj dX K4=>?_,lW hs.keys,fun p hp hn=>?_,h4,by rw[hs.whole];simp,by simp[hs.len],fun p hp=>?_⟩
 ·by_cases jc:j=i
  ·subst jc
   rw[hs.cur]at dX;injection dX with dX;subst dX
   exact b7 h7
  ·have eC:j < i:=by omega
   obtain⟨k1,k2⟩:=eD h6 o' (hs.before eC dX)
   exact(hs.ok j o' eC dX K4).grow k1 k2
 ·rcases ae.1 hp with rfl|hp
  ·exact absurd (eX eL hd) hn
  ·exact hs.base p (b4 hp).1 hn
 ·rcases ae.1 hp with rfl|hp
  ·exact .inr ⟨i,o,rN,hs.cur,hd⟩
  ·exact hs.kd p (b4 hp).1
theorem FOps.MF(rN:fw E i=true)(k:FOps C n mmf L cp E (i+1) l tm T):FOps C n mmf L cp E i (o::l) tm T:=fun ahead hs=>by
 obtain⟨h2,h3,h4,h5⟩:=gv hs.FO
 refine k _ ⟨fun j o' hj dX K4=>?_,hs.keys,hs.base,h4,by rw[hs.whole];simp,by simp[hs.len],hs.kd⟩
 by_cases jc:j=i
 ·subst jc;exact absurd (cz.1 rN) K4
 ·exact hs.ok j o' (by omega) dX K4
theorem zX{E:List Nat}{i:Nat}(h:fw E i=false):i∉E:=fun hk=>by rw[cz.2 hk]at h;cases h
theorem FOps.step(rN:fw E i=false)(hg:bp L (bg (aK L o) tm) o=some true)
 (h:∀mm',(∀q∈mmf i,q∈mm')→(∀p∈mm',∀q∈mm',p.1=q.1→p=q)→JH C n mm' o (bg (aK L o) tm) d s)(hd:o.dst=some d)
 (k:FOps C n mmf L cp E (i+1) l ((d,s)::bw tm d) T):FOps C n mmf L cp E i (o::l) tm T:=fun ahead hs=>
 k _ (hs.next hd (zX rN) fun hl=>⟨d,s,hd,ah,fun tm' mm' hL hb a w K Q hh hK=>by
   have ym:eN L tm o tm':=hL.back hl
   rw[if_pos (ez hg ym hh)]
   exact(h mm' hb (nK hh)).2 tm' (fun p hp=>ym p (cQ.1 hp).1 (cQ.1 hp).2) a w K Q hh hK⟩)
theorem FOps.skip(rN:fw E i=false)(hg:bp L (bg (aK L o) tm) o=some false)(hd:o.dst=some d)(hn:Nat.blt d n=true)
 (k:FOps C n mmf L cp E (i+1) l ((d,.gE [])::bw tm d) T):FOps C n mmf L cp E i (o::l) tm T:=fun ahead hs=>
 k _ (hs.next hd (zX rN) fun hl=>⟨d,_,hd,ah,fun tm' mm' hL hb a w K Q hh hK=>by
   have ym:eN L tm o tm':=hL.back hl
   rw[if_neg (by rw[ez hg ym hh];simp)]
   obtain⟨H,Z,hm⟩:=hh
   rw[hd]
   exact hK _ _ ⟨H,Z,hm.BD (aY.mp hn) ⟨#[],rfl,rfl,fun j c hc=>by simp at hc⟩⟩⟩)
inductive LU where
 |stop (i:Nat)(l:List Oper)(tm:TM)
def OF(Θ:dD)(n:Nat)(mmf:Nat→MM)(L:List Oper)(E:List Nat):Nat→List Oper→TM→LU
 |i,[],tm=>.stop i [] tm
 |i,o::r,tm=>match fw E i with
  |true=>OF Θ n mmf L E (i+1) r tm
  |false=>match bp L (bg (aK L o) tm) o with
   |some true=>match o.dst with
    |some d=>match vr Θ (bg (aK L o) tm) (mmf i) o.op with
     |some st=>match nk n d st tm with
      |some tm'=>OF Θ n mmf L E (i+1) r tm'
      |none=>.stop i (o::r) tm
     |none=>.stop i (o::r) tm
    |none=>.stop i (o::r) tm
   |some false=>match o.dst with
    |some d=>match nk n d (.gE []) tm with
     |some tm'=>OF Θ n mmf L E (i+1) r tm'
     |none=>.stop i (o::r) tm
    |none=>.stop i (o::r) tm
   |none=>.stop i (o::r) tm
theorem oD{Θ:dD}(bI:bz C.P Θ):∀{l:List Oper} {i:Nat} {tm:TM} {i':Nat} {l':List Oper} {tm':TM},
 OF Θ n mmf L E i l tm=.stop i' l' tm'→FOps C n mmf L cp E i' l' tm' T→FOps C n mmf L cp E i l tm T
 |[],i,tm,i',l',tm',h,k=>by
  simp only[OF,LU.stop.injEq]at h
  obtain⟨rfl,rfl,rfl⟩:=h
  exact k
 |o::r,i,tm,i',l',tm',h,k=>by
  have same:LU.stop i (o::r) tm=.stop i' l' tm'→FOps C n mmf L cp E i (o::r) tm T:=by
   intro e
   injection e with e1 e2 e3
   subst e1 e2 e3
   exact k
  unfold OF at h
  split at h
  ·rename_i hE
   exact FOps.MF hE (oD bI h k)
  ·rename_i hE
   split at h
   ·rename_i hg
    split at h
    ·rename_i d hd
     split at h
     ·rename_i st hv
      split at h
      ·rename_i Bz hs
       obtain⟨hn,rfl⟩:=fJ hs
       exact FOps.step hE hg (fun mm' hb hu=>(kB bI (pb (nz hb hu) hv) hd hn).Jt) hd (oD bI h k)
      ·exact same h
     ·exact same h
    ·exact same h
   ·rename_i hg
    split at h
    ·rename_i d hd
     split at h
     ·rename_i Bz hs
      obtain⟨hn,rfl⟩:=fJ hs
      exact FOps.skip hE hg hd hn (oD bI h k)
     ·exact same h
    ·exact same h
   ·exact same h
def PO(Θ:dD)(n:Nat)(mmf:Nat→MM)(L:List Oper)(E:List Nat)(i:Nat)(l:List Oper)(tm:TM):Option LU:=
 match x5 tm with
 |some tm'=>some (OF Θ n mmf L E i l tm')
 |none=>none
theorem qz{Θ:dD}(bI:bz C.P Θ){i':Nat}{l':List Oper}{tm':TM}(h:PO Θ n mmf L E i l tm=some (.stop i' l' tm'))(k:FOps C n mmf L cp E i' l' tm' T):FOps C n mmf L cp E i l tm T:=by
 unfold PO at h
 split at h
 ·rename_i Bz h1
  rw[←oq h1]
  injection h with h
  exact oD bI h k
 ·cases h
def lH{ι:Type}(C:Ctx)(n:Nat)(L:List Oper)(dc:TM)(ET:Nat→ι→TM)(ic:Nat→ι→MM):Nat→List Nat→Prop
 |_,[]=>True
 |k,e::r=>(∀o,rE L e=some o→∀x,o8 C n L dc ET ic k x o)∧lH C n L dc ET ic (k+1) r
theorem lH.get{ι:Type}{dc:TM}{ET:Nat→ι→TM}{ic:Nat→ι→MM}:∀{E:List Nat} {m:Nat},lH C n L dc ET ic m E→∀k e o x,E[k]? =some e→L[e]? =some o→o8 C n L dc ET ic (m+k) x o
 |[],m,_,k,e,o,x,h,_=>by simp at h
 |e0::r,m,h,k,e,o,x,he,ho=>by
  cases k with
  |zero=>simp at he;subst he;exact h.1 o (by rw[nx];exact ho) x
  |succ k=>
   have:=lH.get h.2 k e o x (by simpa using he) ho
   rwa [show m+1+k=m+(k+1) by omega]at this
def Gm(E:List Nat)(L:List Oper):TM→Bool
 |[]=>true
 |(t,_)::r=>match E.any (fun e=>match rE L e with|some o=>(match o.dst with|some d=>Nat.beq d t|none=>false)|none=>false)with
  |true=>Gm E L r
  |false=>false
theorem wc:∀{l:TM},Gm E L l=true→∀p∈l,∃e∈E,∃o,L[e]? =some o∧o.dst=some p.1
 |[],_,p,hp=>by cases hp
 |(t,s)::r,h,p,hp=>by
  unfold Gm at h
  split at h
  ·rename_i ha
   rcases ae.1 hp with rfl|hp
   ·obtain⟨e,he,h2⟩:=cu.1 ha
    split at h2
    ·rename_i o ho
     split at h2
     ·rename_i d hd
      exact⟨e,he,o,by rw[←nx];exact ho,by rw[hd,aR h2]⟩
     ·cases h2
    ·cases h2
   ·exact wc h p hp
  ·cases h
theorem IF{ι:Type}(mmf:Nat→MM)(E:List Nat)(ET:Nat→ι→TM)(ic:Nat→ι→MM)(x0:ι){mm:MM}{f:FuncId}{Rr:Ending→World→Prop}{k:List Item}{id:Nat}(mE:C.P.follows .mixedOrders=true)
 (N8:ic 0 x0=mm)(Ua:ET 0 x0=[])(CH:∀k x,Gm E L (ET k x)=true)
 (b7:kX L [] L 0=true)(hu:q5 (bV L) (gJ (bV L) tm)=true)(Lc:E≠[])(DW:pH L E=true)
 (dQ:∀(listed:Array Bool) (k:Nat),Js L listed→(∀j e,E[j]? =some e→(listed.getD e false=true↔j < k))→∀i,i < L.length→i∉E→listed.getD i false=false→∀x,∀q∈mmf i,q∈ic k x)
 (h:FOps C n mmf L (gJ (bV L) tm) E 0 L (gJ (bV L) tm) fun dc=>lH C n L dc ET ic 0 E∧∀x,Goes C f n Rr k (dc++ET E.length x) (ic E.length x)):
 Goes C f n Rr (.code (.region id L.toArray true)::k) tm mm:=by
 refine Goes.mono (tm':=gJ (bV L) tm) (mm':=mm) ?_ (fun _ _ hh=>hh.lA fun _ hp=>jR hp)
 obtain⟨u1,u2⟩:=kp hu
 intro a w hh b cs hb hk
 obtain⟨dc,⟨Oz,hg⟩,hF⟩:=h [] ⟨fun j o hj=>(by omega),u2,fun p hp _=>hp,b7,rfl,rfl,fun p hp=>.inl hp⟩
 have lZ:∀k,(Array.replicate L.length false).getD k false=false:=fun k=>by
  by_cases hk:k < L.length
  ·simp[Array.getD,hk]
  ·simp[Array.getD,hk]
 have oU:=LN (P:=fun tm' mm'=>Goes C f n Rr k tm' mm') (mmf:=mmf) dQ b7 (fun i o ho hi=>hF.ok i o (ai.1 ho).1 ho hi) hF.keys Lc DW
  (fun p hp k0 e gn o ho hd=>by
    have he:=an gn
    exfalso
    rcases hF.kd p hp with hn|⟨j,o',hj,dX,F0⟩
    ·exact u1 p hn (eX (an ho) hd)
    ·rcases cv j e with bo|heq|bo
     ·exact absurd F0 (jy hd b7 _ _ ho bo dX)
     ·subst heq;exact hj he
     ·exact absurd hd (jy F0 b7 _ _ dX bo ho))
  (fun k x=>wc (CH k x)) (fun k e o x he ho=>by have:=Oz.get k e o x he ho;rwa [fA]at this) hg L.length (Array.replicate L.length false) 0 x0 a {w with drawn:=w.drawn+1} (gJ (bV L) tm) (by simp)
  (by rw[show(Array.replicate L.length false).toList=List.replicate L.length false by simp];exact dN (eG _ _) (by simp))
  (fun p hp=>by
    obtain⟨g1,g2|⟨k,o,k1,k2,k3⟩⟩:=hp
    ·exact hF.base p g1 g2
    ·rw[lZ k]at k3;cases k3)
  (fun p hp=>by rw[Ua]at hp;cases hp)
  (fun j e _=>by rw[lZ e];simp) (aM _) (fun j o _ hj=>by rw[lZ j]at hj;cases hj) (by rw[N8];exact hh.drawn)
 have KR:=wp_region_any (id:=id) (Q:=QT C n (fun tm' mm'=>Goes C f n Rr k tm' mm')) (ops:=L.toArray) (a:=a) (w:=w) mE (by simpa using oU)
 obtain⟨e,a',w',hq,uK⟩:=KR b k cs
 cases e with
 |normal=>
  obtain⟨tm',mm',hg,Io⟩:=hq
  obtain⟨e,xC,fr,g1,g2,g3⟩:=hg a' w' Io b cs hb hk
  exact⟨e,xC,fr,g1,Comes.of_steps uK g2,g3⟩
 |_=>exact hq.elim
def HL(d:Nat):TM→Bool
 |[]=>true
 |(t,_)::r=>match Nat.beq t d with
  |true=>false
  |false=>HL d r
def xA{ι:Type}(L:List Oper)(dc:TM)(ET:Nat→ι→TM):Nat→List Nat→Prop
 |_,[]=>True
 |k,e::r=>(∀o d,rE L e=some o→o.dst=some d→HL d dc=true∨∃s,iX dc d=some s∧∀x,(d,s)∈ET (k+1) x)∧xA L dc ET (k+1) r
theorem xA.get{ι:Type}{dc:TM}{ET:Nat→ι→TM}:∀{E:List Nat} {m:Nat},xA L dc ET m E→∀k e o d,E[k]? =some e→L[e]? =some o→o.dst=some d→HL d dc=true∨∃s,iX dc d=some s∧∀x,(d,s)∈ET (m+k+1) x
 |[],m,_,k,e,o,d,h,_,_=>by simp at h
 |e0::r,m,h,k,e,o,d,he,ho,hd=>by
  cases k with
  |zero=>simp at he;subst he;exact h.1 o d (by rw[nx];exact ho) hd
  |succ k=>
   have:=xA.get h.2 k e o d (by simpa using he) ho hd
   rwa [show m+1+k=m+(k+1) by omega]at this
theorem yr{ι:Type}(E:List Nat)(ids:List Nat)(ET:Nat→ι→TM)(ic:Nat→ι→MM)(x0:ι){mm:MM}{f:FuncId}{Rr:Ending→World→Prop}{k:List Item}{id:Nat}(mE:C.P.follows .mixedOrders=true)
 (N8:ic 0 x0=mm)(AL:∀k x,k < E.length→∀q∈eT ids mm,q∈ic k x)(Ua:ET 0 x0=[])(CH:∀k x,Gm E L (ET k x)=true)
 (b7:kX L [] L 0=true)(hu:q5 (bV L) (gJ (bV L) tm)=true)(Lc:E≠[])(vi:qJ L (L.length - 1)=true)(DW:pH L E=true)
 (h:FOps C n (fun _=>eT ids mm) L (gJ (bV L) tm) E 0 L (gJ (bV L) tm) fun dc=>lH C n L dc ET ic 0 E∧∀x,Goes C f n Rr k (dc++ET E.length x) (ic E.length x)):
 Goes C f n Rr (.code (.region id L.toArray true)::k) tm mm:=by
 have hE:=fq.2 Lc
 refine IF (fun _=>eT ids mm) E ET ic x0 mE N8 Ua CH b7 hu Lc DW (fun listed k AJ eu i hi rN hf x=>AL k x ?_) h
 rcases cn k E.length with hk|hk
 ·exact hk
 ·exfalso
  have he:E[E.length - 1]? =some E[E.length - 1]:=aa (by omega)
  have:=AX b7 vi DW Lc listed AJ _ he ((eu _ _ he).2 (by omega)) i hi rN
  rw[hf]at this;cases this
end
end Go.Sy
namespace Go.Sy
open Go.RowKit
section
variable {C:Ctx} {n:Nat} {tm tm':TM} {mm:MM} {o:Oper} {d:Nat}
theorem sb{l cs:List Value}{off N:Nat}(h:off+cs.length≤N)(hN:N≤l.length):
 (l.take off++cs++l.drop (off+cs.length)).take N=(l.take N).take off++cs++(l.take N).drop (off+cs.length):=by
 rw[br,List.take_append,bf,vS (by omega),List.take_append,List.take_take,List.take_take,Nat.min_eq_right (by omega),vS (by omega),ek (show cs.length≤N - off by omega),br]
 congr 2
 rw[List.drop_take]
 congr 1;omega
theorem wL{Θ:dD}(bI:bz C.P Θ){t:TypeId}{ti:gD}{x y:Operand}{i k j e sz:Nat}{qs:PQ}{v:Value}{xs:List (List CT)}{s:SV}{cs:List CT}
 (ho:o.op=.store t x y)(ht:aZ Θ t=some ti)(hx:aW tm x=some (.c (.val (vw v (j * sz)))))(hi:getM mm i=some (.bG e sz qs))(hk:qs[k]? =some (v,xs))(hj:j < xs.length)
 (hy:dM tm y=some s)(hc:hJ s.cells=some cs)(c8:Nat.beq cs.length ti.size=true)(Mf:Nat.beq ti.size sz=true)(FY:s.cells.all SC.known=true)(iF:Nat.blt i given=true)(fO:ed i mm=true)(hd:o.dst=none):
 yW C n o tm mm (jQ i tm) (cK mm i (.bG e sz (qs.set k (v,xs.set j cs)))):=by
 intro a w ⟨H,Z,hm⟩
 obtain⟨inf,de,hf⟩:=jH bI ht
 obtain⟨hH,dj⟩:=hm.mem _ (aN hi)
 have dj:ea w (cU C H mm) e sz qs:=dj
 obtain⟨us,dF,hlen,cL⟩:=dj.row hk
 have HU:=a7.iM (aX hm hx)
 have Qe:ti.size=sz:=aR Mf
 have vi:cs.length=sz:=by rw[←Qe];exact aR c8
 obtain⟨c1,c2⟩:=(ee hm hy).cells hm FY
 have yQ:Pw (fun u c=>a7 w (cU C H mm) u c) (a.eval y).cells.toList cs:=
  iZ hc ⟨by simpa using c1,fun j c hc=>let⟨u,hu,_,hr⟩:=c2 j c hc;⟨u,by simpa using hu,hr⟩⟩
 have vI:∀v∈(a.eval y).cells.toList,v.oneCell'=true:=by
  intro v hv
  obtain⟨j,hj,QR⟩:=aB.1 hv
  have eC:j < cs.length:=by rw[←yQ.1];exact hj
  obtain⟨u,hu,hr⟩:=yQ.2 j cs[j] (aa eC)
  rw[aa hj,QR]at hu
  injection hu with hu
  rw[hu];exact hr.one
 have mG:(a.eval y).cells.toList.length=sz:=by rw[yQ.1,vi]
 rcases dF.2 with⟨_,h0⟩|⟨g,cap,cur,hv,TB,uG,j3,kY,CA,uy⟩
 ·omega
 subst hv
 simp only[vw,jF,fA]at HU
 have Od:j * sz+sz≤xs.length * sz:=by
  have:=bq sz (show j+1≤xs.length from hj)
  rw[dt]at this;omega
 have Q5:xs.length * sz≤cap * sz:=bq _ j3
 have dQ:=run_storeCells_at (P:=C.P) g (j * sz) e (a.eval y).cells.toList 0 cur w uG (by rw[mG,CA];omega) vI
 have nF:(a.eval y).cells.size=ti.size:=by rw[Qe,←mG];simp
 have lB:=setRow_heap w g cur (cur.toList.take (j * sz+0)++(a.eval y).cells.toList++cur.toList.drop (j * sz+0+(a.eval y).cells.toList.length)).toArray e (0,0) uG
 have ec:=mq w g (cur.toList.take (j * sz+0)++(a.eval y).cells.toList++cur.toList.drop (j * sz+0+(a.eval y).cells.toList.length)).toArray
 generalize Jv:w.setRow g (cur.toList.take (j * sz+0)++(a.eval y).cells.toList++cur.toList.drop (j * sz+0+(a.eval y).cells.toList.length)).toArray=w' at lB ec dQ
 have Ax:(Value.slice (some ⟨g,0,none⟩) xs.length cap,xs)∈qs:=an hk
 have Jw:us=cur.toList.take (xs.length * sz):=uy.symm
 have It:cur.toList.length=cap * sz:=by simpa using CA
 refine .inr ⟨w',?_,Sy.jf H i (eA (qs.set k (.slice (some ⟨g,0,none⟩) xs.length cap,xs.set j cs))),Z,?_⟩
 ·simp only[execOp,ho,HU,Instr.storeAt,Instr.sureAddr,storeVar,Sem.run_bind,Sem.run_pure,Result.andThen_ok,hf.sizeOf,nF,ne_eq,not_true,if_false,dQ]
 ·rw[hd]
  refine hm.xI hi (aY.mp iF) fO (ec.xB fun b _ hb=>⟨_,Ax,by rw[hb];rfl⟩) (by simpa[Act.put]using hm.defers) (by simp[Act.put,hm.size]) ?_ ?_ ?_
  ·intro q hq b db
   rcases eF hq with hq|rfl
   ·exact .inl ⟨q,hq,db⟩
   ·exact .inl ⟨_,Ax,db⟩
  ·intro M' iH iA
   refine dj.set hk ⟨us.take (j * sz)++(a.eval y).cells.toList++us.drop (j * sz+sz),⟨?_,.inr ⟨g,cap,_,by simp,TB,lB,by simpa using j3,kY,?_,?_⟩⟩,fun q hq=>?_,fun l q hq m ct vh=>?_⟩ ec.size
    (fun b hb cj=>ec.block b hb (fun e=>cj (by rw[e];rfl))) iA iH (fun b hb=>.inl hb)
   ·have rK:=dF.1
    rw[aL,aL,bf,eP,mG,rK,oN];omega
   ·rw[List.size_toArray,aL,aL,bf,eP,mG,It];omega
   ·simp only[oN,lI]
    rw[sb (by rw[mG];omega) (by omega),uy,mG]
   ·rcases eF hq with hq|rfl
    ·exact hlen q hq
    ·exact vi
   ·have rK:us.length=xs.length * sz:=dF.1
    rw[cY]at hq
    have Ig:∀{q:List CT},q.length=sz→q[m]? =some ct→m < sz:=fun h1 h2=>by rw[←h1];exact(ai.1 h2).1
    split at hq
    ·rename_i eC;subst eC
     injection hq with hq;subst hq
     have Ic:=Ig vi vh
     obtain⟨u,hu,hr⟩:=yQ.2 m ct vh
     refine⟨u,?_,a7.mono hr ec.size iA iH⟩
     rw[aG (by rw[aL,bf,mG,rK];omega),aO (by rw[bf,rK];omega)]
     rw[←hu];congr 1;rw[bf,rK];omega
    ·rename_i eC
     have hl:l < xs.length:=(ai.1 hq).1
     have Ic:=Ig (hlen q (an hq)) vh
     obtain⟨u,hu,hr⟩:=cL l q hq m ct vh
     refine⟨u,?_,a7.mono hr ec.size iA iH⟩
     rcases cn l j with bo|R3
     ·have hle:l * sz+sz≤j * sz:=by
       have:=bq sz (show l+1≤j from bo)
       rw[dt]at this;omega
      rw[br,aG (by rw[bf,rK];omega),b9,if_pos (by omega)]
      exact hu
     ·have hle:j * sz+sz≤l * sz:=by
       have:=bq sz (show j+1≤l by omega)
       rw[dt]at this;omega
      rw[aO (by rw[aL,bf,mG,rK];omega),ca]
      rw[←hu];congr 1;rw[aL,bf,mG,rK];omega
  ·intro p hp
   obtain⟨h1,h2⟩:=jB hp
   exact .inl ⟨p,h1,rfl,rfl,h2⟩
def eU(i:Nat):TM→Bool
 |[]=>true
 |(_,s)::r=>match fw s.bD i with
  |true=>false
  |false=>eU i r
theorem eB{i:Nat}:∀{l:TM},eU i l=true→∀p∈l,i∉p.2.bD
 |[],_,p,hp=>by cases hp
 |(t,s)::r,h,p,hp=>by
  unfold eU at h
  split at h
  ·cases h
  ·rename_i hm
   rcases ae.1 hp with rfl|hp
   ·exact fun hk=>by rw[cz.2 hk]at hm;cases hm
   ·exact eB h p hp
theorem Has.Kw{a:Act}{w:World}(j e sz:Nat)(hj:Nat.blt j given=true)(hf:iW mm j=false)(h:Has C n tm mm a w):Has C n tm ((j,.bG e sz [])::mm) a w:=by
 obtain⟨H,Z,hm⟩:=h
 have yO:=fc hf
 have cj:∀q,cD mm q→q≠j:=fun q hq e=>yO (e▸hq)
 have eL:∀p∈mm,p.1≠j:=fun p hp=>cj p.1 ⟨p,hp,rfl⟩
 have hI:∀q,cD mm q→cD ((j,.bG e sz [])::mm) q:=fun q ⟨p,hp,e⟩=>⟨p,ab _ hp,e⟩
 have h0:∀b,¬Hb (eA []) b:=fun b hb=>by obtain⟨q,hq,_⟩:=cO.1 hb;cases hq
 refine⟨Sy.jf H j (eA []),Z,hm.build (fun _=>False) (Ext.refl _ _) (fun _ _ h=>h.elim) hm.defers hm.size ?_ ?_ ?_ ?_ ?_⟩
 ·intro p hp jZ
  rcases ae.1 hp with rfl|hp
  ·have:=aY.mp hj;simp only at jZ;omega
  ·rw[bx _ _ (eL p hp)];exact hm.hg p hp jZ
 ·intro p hp q hq he
  rcases ae.1 hp with rfl|hp<;>rcases ae.1 hq with rfl|hq
  ·rfl
  ·exact absurd he.symm (eL q hq)
  ·exact absurd he (eL p hp)
  ·exact hm.ids p hp q hq he
 ·intro p hp
  rcases ae.1 hp with rfl|hp
  ·refine .inr ⟨fun b hb=>by rw[bc]at hb;exact absurd hb (h0 b),fun _ _=>⟨by rw[bc];rfl,fun k q hq=>by simp at hq,fun k l q r hq=>by simp at hq⟩⟩
  ·exact .inl ⟨hp,bx _ _ (eL p hp),rfl,fun _ _ hx=>hx,fun q _ hq=>⟨hI q hq,bx _ _ (cj q hq),rfl⟩⟩
 ·intro p hp q hq jl b cC db
  rcases ae.1 hp with rfl|hp<;>rcases ae.1 hq with rfl|hq
  ·exact jl J
  ·rw[bc]at cC;exact h0 b cC
  ·rw[bc]at db;exact h0 b db
  ·rw[bx _ _ (eL p hp)]at cC
   rw[bx _ _ (eL q hq)]at db
   exact hm.sep p hp q hq jl b cC db
 ·intro p hp
  exact .inl ⟨p,hp,rfl,rfl,fun q _ hq=>⟨hI q hq,bx _ _ (cj q hq),rfl⟩⟩
theorem Has.Kv{a:Act}{w:World}{i e sz:Nat}{qs:PQ}(hi:getM mm i=some (.bG e sz qs))(iF:Nat.blt i given=true)(fO:ed i mm=true)(oT:eU i tm=true)(h:Has C n tm mm a w):
 Has C n tm (cK mm i (.bG e sz (qs++[(.slice none 0 0,[])]))) a w:=by
 obtain⟨H,Z,hm⟩:=h
 refine⟨_,_,hm.xI (Z:=Z) hi (aY.mp iF) fO (Ext.refl _ _) hm.defers hm.size (fun q hq b db=>?_) (fun M' iH iA=>?_) (fun p hp=>.inl ⟨p,hp,rfl,rfl,eB oT p hp⟩)⟩
 ·rcases aQ.1 hq with hq|hq
  ·exact .inl ⟨q,hq,db⟩
  ·simp at hq;subst hq;cases db
 ·obtain⟨_,dj⟩:=hm.mem _ (aN hi)
  have dj:ea w (cU C H mm) e sz qs:=dj
  refine⟨fun k q hq=>?_,fun k l q r hq hr kl b db o3=>?_⟩
  ·rw[bN]at hq
   split at hq
   ·exact eM.mono (v:=q.1) (xs:=q.2) (dj.1 k q hq) (fun _ _=>rfl) (aA _) (fun _ _ _=>rfl) iH
   ·have:q=(.slice none 0 0,[]):=by
     have:=an hq;simpa using this
    subst this
    exact eM.nil w M' e sz
  ·rw[bN]at hq hr
   split at hq
   ·split at hr
    ·exact dj.2 k l q r hq hr kl b db o3
    ·have:r=(.slice none 0 0,[]):=by
      have:=an hr;simpa using this
     subst this;cases o3
   ·have:q=(.slice none 0 0,[]):=by
     have:=an hq;simpa using this
    subst this;cases db
theorem Has.Nq{i j:Nat}{cs:List SC}(hi:getM mm i=some (.box cs))(hj:py cs j=some (.c .bK)){a:Act}{w:World}(h:Has C n tm mm a w):
 Has C n tm (cK mm i (.box (mr cs j (.c (.val (.slice none 0 0)))))) a w:=by
 obtain⟨H,Z,hm⟩:=h
 obtain⟨b,ty,vs,h1,h2,h3,h4⟩:=hm.mem _ (aN hi)
 have DU:=aN hi
 refine⟨H,Z,hm.jf (b0:=b) ⟨_,DU,rfl⟩ (by rw[show H i=_ from h1];rfl) (Ext.refl _ _) hm.defers hm.size ?_ (fun q hq=>⟨hq,rfl⟩)⟩
 intro iH iA
 refine⟨b,ty,vs,h1,h2,by rw[h3,ia];simp,fun k c hc=>?_⟩
 rw[ia,cY]at hc
 have hI:∀j,cD mm j→cD (cK mm i (.box (mr cs j (.c (.val (.slice none 0 0)))))) j:=fun j hj=>(eI j).2 hj
 split at hc
 ·rename_i Oe;subst Oe
  split at hc
  ·injection hc with hc;subst hc
   rw[mB]at hj
   obtain⟨u,hu,ho,hr⟩:=h4 j _ hj
   have:u=.slice none 0 0:=a7.kF hr
   subst this
   exact⟨_,hu,ho,a7.val _ J⟩
  ·cases hc
 ·obtain⟨u,hu,ho,hr⟩:=h4 k c hc
  exact⟨u,hu,ho,hr.mono (fun q _ hq=>⟨(eI q).2 hq,rfl,rfl⟩) (aA _) (fun _ _ _=>rfl) iH⟩
theorem Has.AW{a:Act}{w:World}(h:Has C n tm mm a w){i j e sz:Nat}{qs:PQ}{o o':MO}(j1:Nat.beq i j=false)(hi:getM mm i=some (.bG e sz qs))(iF:Nat.blt i given=true)(hj:getM mm j=some o)
 (fO:ed i mm=true)(oT:eU i tm=true)
 (o5:∀(I I':Nat→Prop) (H:Nat→Value) (Z:Nat→Nat) (w:World) (M M':Nat→Prop),(∀q∈o.bD,I q→I' q)→(∀b,b < w.heap.size→M' b→M b)→ea w M e sz qs→(∀q∈qs,∀b,hblk q.1=some b→¬M' b)→eb I H Z w M j o→eb I' H Z w M' j o'):
 Has C n tm (cK (eT [i] mm) j o') a w:=by
 obtain⟨H,Z,hm⟩:=h
 have cj:i≠j:=fun e=>by subst e;simp at j1
 obtain⟨hH,dj⟩:=hm.mem _ (aN hi)
 have hH:H i=eA qs:=hH
 have dj:ea w (cU C H mm) e sz qs:=dj
 have mR:∀p∈cK (eT [i] mm) j o',(p=(j,o')∨(p∈mm∧p.1≠j))∧p.1≠i:=by
  intro p hp
  rcases cq p hp with⟨rfl,_⟩|⟨k1,k2⟩
  ·exact⟨.inl rfl,Ne.symm cj⟩
  ·obtain⟨g1,g2⟩:=dm.1 k1
   exact⟨.inr ⟨g1,k2⟩,by simpa using g2⟩
 have pE:∀q,q≠i→cD mm q→cD (cK (eT [i] mm) j o') q:=fun q hq ⟨p,hp,e⟩=>(eI q).2 ⟨p,dm.2 ⟨hp,by simpa[e]using hq⟩,e⟩
 have hold:∀p∈cK (eT [i] mm) j o',∃q∈mm,q.1=p.1:=by
  intro p hp
  rcases(mR p hp).1 with rfl|⟨k1,_⟩
  ·exact⟨_,aN hj,rfl⟩
  ·exact⟨p,k1,rfl⟩
 have hM:∀b,b < w.heap.size→cU C H (cK (eT [i] mm) j o') b→cU C H mm b:=by
  rintro b _ (hb|⟨p,hp,cC⟩)
  ·exact .inl hb
  ·obtain⟨q,hq,e⟩:=hold p hp
   exact .inr ⟨q,hq,by rw[e];exact cC⟩
 have Tc:∀q∈qs,∀b,hblk q.1=some b→¬cU C H (cK (eT [i] mm) j o') b:=by
  rintro q hq b db (hb|⟨p,hp,cC⟩)
  ·have hf:=hm.fresh _ (aN hi) b (by rw[show H (i,_).1=_ from hH];exact cO.2 ⟨q,hq,db⟩)
   have:=hm.m0 b hb
   have:=aY.mp iF
   rcases hf.1 with⟨_,h2|h2⟩|⟨h1,_⟩
   ·omega
   ·exact(C.hV b h2).2 hb
   ·simp only at h1;omega
  ·obtain⟨r,hr,e⟩:=hold p hp
   rw[←e]at cC
   exact hm.sep r hr _ (aN hi) (by rw[e];exact(mR p hp).2) b cC (by rw[show H (i,_).1=_ from hH];exact cO.2 ⟨q,hq,db⟩)
 refine⟨H,Z,hm.defers,hm.size,hm.L9,?_,hm.ext,hm.m0,?_,?_,?_,?_,?_⟩
 ·intro p hp jZ
  obtain⟨q,hq,e⟩:=hold p hp
  rw[←e]at jZ⊢
  exact hm.hg q hq jZ
 ·intro p hp q hq he
  rcases(mR p hp).1 with rfl|⟨k1,k2⟩<;>rcases(mR q hq).1 with rfl|⟨vF,s7⟩
  ·rfl
  ·exact absurd he.symm s7
  ·exact absurd he k2
  ·exact hm.ids p k1 q vF he
 ·intro p hp
  obtain⟨h1,h2⟩:=mR p hp
  rcases h1 with rfl|⟨k1,k2⟩
  ·exact o5 _ _ H Z w _ _ (fun q hq qu=>pE q (fun e=>dP fO (aN hj) (e▸hq)) qu) hM dj Tc (hm.mem _ (aN hj))
  ·exact(hm.mem p k1).mono ⟨rfl,rfl⟩ (fun _ _=>rfl) (fun q hq qu=>⟨pE q (fun e=>dP fO k1 (e▸hq)) qu,rfl,rfl⟩) (aA _) (fun _ _ _=>rfl) hM
 ·intro p hp b hb
  obtain⟨q,hq,e⟩:=hold p hp
  rw[←e]at hb⊢
  exact hm.fresh q hq b hb
 ·intro p hp q hq jl b cC
  obtain⟨p',oA,e1⟩:=hold p hp
  obtain⟨q',pO,e2⟩:=hold q hq
  rw[←e1]at cC
  rw[←e2]
  exact hm.sep p' oA q' pO (by rw[e1,e2];exact jl) b cC
 ·intro p hp
  exact(hm.tmps p hp).mono (fun q hq qu=>⟨pE q (fun e=>eB oT p hp (e▸hq)) qu,rfl,rfl⟩) (aA _) (fun _ _ _=>rfl) hM
theorem Has.Ln{a:Act}{w:World}(i j c:Nat){e sz:Nat}{v:Value}{xs:List (List CT)}{cs:List SC}(j1:Nat.beq i j=false)(hi:getM mm i=some (.bG e sz [(v,xs)]))(iF:Nat.blt i given=true)(hj:getM mm j=some (.box cs))
 (hc:py cs c=some (.c (.val v)))(fO:ed i mm=true)(oT:eU i tm=true)(h:Has C n tm mm a w):
 Has C n tm (cK (eT [i] mm) j (.box (mr cs c (.c (.slice false sz xs))))) a w:=by
 refine h.AW j1 hi iF hj fO oT fun I I' H Z w M M' hI hM hp hn dL=>?_
 obtain⟨b,ty,vs,h1,h2,h3,h4⟩:=dL
 refine⟨b,ty,vs,h1,h2,by rw[h3,ia];simp,fun k ct hk=>?_⟩
 rw[ia,cY]at hk
 split at hk
 ·rename_i Pv;subst Pv
  split at hk
  ·injection hk with hk;subst hk
   rw[mB]at hc
   obtain⟨u,hu,ho,hr⟩:=h4 c _ hc
   have:u=v:=a7.iM hr
   subst this
   exact⟨u,hu,ho,(hp.row (k:=0) J).frozen hM (hn _ ah)⟩
  ·cases hk
 ·obtain⟨u,hu,ho,hr⟩:=h4 k ct hk
  exact⟨u,hu,ho,hr.mono (fun q hq qu=>⟨hI q (by simp only[MO.bD,bt];exact⟨ct,an hk,hq⟩) qu,rfl,rfl⟩) (aA _) (fun _ _ _=>rfl) hM⟩
theorem Has.Lm{a:Act}{w:World}(i j:Nat){e sz e':Nat}{qs:PQ}{v:Value}{rows:List (List CT)}(j1:Nat.beq i j=false)(hi:getM mm i=some (.bG e sz qs))(iF:Nat.blt i given=true)(hj:getM mm j=some (.bG e' 1 [(v,rows)]))
 (fO:ed i mm=true)(oT:eU i tm=true)(qq:rows=qs.map fun q=>[.val q.1])(h:Has C n tm mm a w):
 Has C n tm (cK (eT [i] mm) j (.bG e' 1 [(v,qs.map fun q=>[.slice false sz q.2])])) a w:=by
 refine h.AW j1 hi iF hj fO oT fun I I' H Z w M M' hI hM hp hn dL=>?_
 obtain⟨h1,h2,h3⟩:=dL
 refine⟨h1,fun k q hq=>?_,fun k l q r hq hr kl=>?_⟩
 ·cases k with
  |zero=>
   simp at hq;subst hq
   obtain⟨us,g1,g2,g3⟩:=h2 0 (v,rows) J
   subst qq
   refine⟨us,by simpa using g1,(fun x hx=>by simp only[aE]at hx;obtain⟨q,_,rfl⟩:=hx;rfl),fun i x hx j c hc=>?_⟩
   simp only[aI]at hx
   cases lC:qs[i]? with
   |none=>simp[lC]at hx
   |some q=>
    simp[lC]at hx;subst hx
    cases j with
    |zero=>
     simp at hc;subst hc
     obtain⟨u,hu,hr⟩:=g3 i [.val q.1] (by simp[lC]) 0 _ J
     have:u=q.1:=a7.iM hr
     subst this
     exact⟨_,hu,(hp.row (k:=i) (v:=q.1) (xs:=q.2) lC).frozen hM (hn q (an lC))⟩
    |succ j=>simp at hc
  |succ k=>simp at hq
 ·cases k with
  |zero=>
   cases l with
   |zero=>exact absurd J kl
   |succ l=>simp at hr
  |succ k=>simp at hq
theorem E0{i q:Nat}:cD (eT [i] mm) q↔cD mm q∧q≠i:=by
 constructor
 ·rintro⟨p,hp,rfl⟩
  obtain⟨h1,h2⟩:=dm.1 hp
  exact⟨⟨p,h1,rfl⟩,by simpa using h2⟩
 ·rintro⟨⟨p,hp,rfl⟩,h⟩
  exact⟨p,dm.2 ⟨hp,by simpa using h⟩,rfl⟩
theorem Has.merge{a:Act}{w:World}(i j:Nat){e sz:Nat}{qs rs:PQ}(j1:Nat.beq i j=false)(hi:getM mm i=some (.bG e sz qs))(hj:getM mm j=some (.bG e sz rs))(iF:Nat.blt i given=true)(rM:Nat.blt j given=true)
 (fO:ed i mm=true)(oT:eU i tm=true)(N3:ed j mm=true)(N2:eU j tm=true)(h:Has C n tm mm a w):
 Has C n tm (cK (eT [i] mm) j (.bG e sz (rs++qs))) a w:=by
 obtain⟨H,Z,hm⟩:=h
 have cj:i≠j:=fun e=>by subst e;simp at j1
 obtain⟨T7,su⟩:=hm.mem _ (aN hi)
 obtain⟨T6,Jz⟩:=hm.mem _ (aN hj)
 have T7:H i=eA qs:=T7
 have T6:H j=eA rs:=T6
 have su:ea w (cU C H mm) e sz qs:=su
 have Jz:ea w (cU C H mm) e sz rs:=Jz
 have Oq:∀b,Hb (H i) b↔∃q∈qs,hblk q.1=some b:=fun b=>by rw[T7];exact cO
 have R6:∀b,Hb (H j) b↔∃q∈rs,hblk q.1=some b:=fun b=>by rw[T6];exact cO
 have U5:∀b,Hb (eA (rs++qs)) b↔Hb (H j) b∨Hb (H i) b:=fun b=>by
  rw[Oq,R6,cO]
  constructor
  ·rintro⟨q,hq,hb⟩
   exact(aQ.1 hq).imp (fun h=>⟨q,h,hb⟩) (fun h=>⟨q,h,hb⟩)
  ·rintro(⟨q,hq,hb⟩|⟨q,hq,hb⟩)
   ·exact⟨q,eZ _ hq,hb⟩
   ·exact⟨q,b8 _ hq,hb⟩
 let mm':=cK (eT [i] mm) j (.bG e sz (rs++qs))
 have mR:∀p∈mm',(p=(j,.bG e sz (rs++qs))∨(p∈mm∧p.1≠j))∧p.1≠i:=by
  intro p hp
  rcases cq p hp with⟨rfl,_⟩|⟨k1,k2⟩
  ·exact⟨.inl rfl,Ne.symm cj⟩
  ·obtain⟨g1,g2⟩:=dm.1 k1
   exact⟨.inr ⟨g1,k2⟩,by simpa using g2⟩
 have pE:∀q,q≠i→cD mm q→cD mm' q:=fun q hq qu=>(eI q).2 (E0.2 ⟨qu,hq⟩)
 have Ik:∀q,q≠i→q≠j→cD mm q→cD mm' q∧Sy.jf H j (eA (rs++qs)) q=H q∧Z q=Z q:=fun q h1 h2 h3=>⟨pE q h1 h3,bx _ _ h2,rfl⟩
 have qp:∀b,Hb (eA (rs++qs)) b→∃q∈mm,(q.1=j∨q.1=i)∧Hb (H q.1) b:=by
  intro b hb
  rcases(U5 b).1 hb with h|h
  ·exact⟨_,aN hj,.inl rfl,h⟩
  ·exact⟨_,aN hi,.inr rfl,h⟩
 have QX:=aY.mp iF
 have Tp:=aY.mp rM
 refine⟨Sy.jf H j (eA (rs++qs)),Z,hm.build (fun _=>False) (Ext.refl _ _) (fun _ _ h=>h.elim) hm.defers hm.size ?_ ?_ ?_ ?_ ?_⟩
 ·intro p hp jZ
  rcases(mR p hp).1 with rfl|⟨k1,k2⟩
  ·simp only at jZ;omega
  ·rw[bx _ _ k2];exact hm.hg p k1 jZ
 ·intro p hp q hq he
  rcases(mR p hp).1 with rfl|⟨k1,k2⟩<;>rcases(mR q hq).1 with rfl|⟨vF,s7⟩
  ·rfl
  ·exact absurd he.symm s7
  ·exact absurd he k2
  ·exact hm.ids p k1 q vF he
 ·intro p hp
  obtain⟨h1,h2⟩:=mR p hp
  rcases h1 with rfl|⟨k1,k2⟩
  ·refine .inr ⟨fun b hb=>?_,fun iH _=>⟨by rw[bc];rfl,fun k q hq=>?_,fun k l q r hq hr kl b db o3=>?_⟩⟩
   ·rw[bc]at hb
    obtain⟨q,hq,lC,db⟩:=qp b hb
    refine .inr ⟨q,hq,db,.inr ⟨?_,Tp⟩⟩
    rcases lC with e|e<;>rw[e]<;>assumption
   ·rw[bN]at hq
    split at hq
    ·exact eM.mono (v:=q.1) (xs:=q.2) (Jz.1 k q hq) (fun _ _=>rfl) (aA _) (fun _ _ _=>rfl) iH
    ·exact eM.mono (v:=q.1) (xs:=q.2) (su.1 _ q hq) (fun _ _=>rfl) (aA _) (fun _ _ _=>rfl) iH
   ·have hx:∀q∈rs,∀r∈qs,hblk q.1=some b→hblk r.1=some b→False:=fun q hq r hr h1 h2=>
     hm.sep _ (aN hj) _ (aN hi) (Ne.symm cj) b ((R6 b).2 ⟨q,hq,h1⟩) ((Oq b).2 ⟨r,hr,h2⟩)
    rw[bN]at hq hr
    split at hq
    ·split at hr
     ·exact Jz.2 k l q r hq hr kl b db o3
     ·exact hx q (an hq) r (an hr) db o3
    ·split at hr
     ·exact hx r (an hr) q (an hq) o3 db
     ·exact su.2 _ _ q r hq hr (by omega) b db o3
  ·refine .inl ⟨k1,bx _ _ k2,rfl,fun _ _ h=>h,fun q hq qu=>Ik q (fun e=>dP fO k1 (e▸hq)) (fun e=>dP N3 k1 (e▸hq)) qu⟩
 ·intro p hp q hq jl b cC db
  obtain⟨h1,h2⟩:=mR p hp
  obtain⟨AQ,qv⟩:=mR q hq
  rcases h1 with rfl|⟨k1,k2⟩<;>rcases AQ with rfl|⟨vF,s7⟩
  ·exact jl J
  ·rw[bc]at cC;rw[bx _ _ s7]at db
   obtain⟨r,hr,S1,o3⟩:=qp b cC
   exact hm.sep q vF r hr (by rcases S1 with e|e<;>rw[e]<;>assumption) b db o3
  ·rw[bc]at db;rw[bx _ _ k2]at cC
   obtain⟨r,hr,S1,o3⟩:=qp b db
   exact hm.sep p k1 r hr (by rcases S1 with e|e<;>rw[e]<;>assumption) b cC o3
  ·rw[bx _ _ k2]at cC;rw[bx _ _ s7]at db
   exact hm.sep p k1 q vF jl b cC db
 ·intro p hp
  exact .inl ⟨p,hp,rfl,rfl,fun q hq qu=>Ik q (fun e=>eB oT p hp (e▸hq)) (fun e=>eB N2 p hp (e▸hq)) qu⟩
end
end Go.Sy
