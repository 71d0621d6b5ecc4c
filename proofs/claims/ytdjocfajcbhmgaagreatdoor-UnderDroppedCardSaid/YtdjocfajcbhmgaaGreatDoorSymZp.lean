/- Symbolic states: a region that draws its order: its first part reads, and calls functions that change variables, one behind the other; its last part is done in its order. -/
import Derived.Test.YtdjocfajcbhmgaaGreatDoorSy8
import Derived.Test.YtdjocfajcbhmgaaGreatDoorBu1
set_option linter.unusedSimpArgs false
set_option linter.unusedVariables false
set_option linter.unusedSectionVars false
namespace Go.Sy
open Go.RowKit
def sN:Nat→List Oper→Option (List Oper×List Oper)
 |0,l=>some ([],l)
 |_+1,[]=>none
 |m+1,o::r=>match sN m r with
  |some (a,s)=>some (o::a,s)
  |none=>none
theorem yR:∀{m:Nat} {L A S:List Oper},sN m L=some (A,S)→L=A++S
 |0,L,A,S,h=>by simp[sN]at h;obtain⟨rfl,rfl⟩:=h;rfl
 |m+1,[],A,S,h=>by simp[sN]at h
 |m+1,o::r,A,S,h=>by
  unfold sN at h
  split at h
  ·rename_i a s hs
   simp only[cI,Prod.mk.injEq]at h
   obtain⟨rfl,rfl⟩:=h
   rw[cH,←yR hs]
  ·cases h
def Nq:Nat→List Oper→Bool
 |_,[]=>true
 |i,o::r=>match eV (fi o.after.toList) (i - 1),nq (fi o.after.toList) i with
  |true,true=>Nq (i+1) r
  |_,_=>false
theorem sQ:∀{l:List Oper} {i:Nat},Nq i l=true→∀(k:Nat) (o:Oper),l[k]? =some o→(i+k - 1)∈fi o.after.toList∧∀q∈fi o.after.toList,q < i+k
 |[],_,_,k,o,h=>by simp at h
 |a::l,i,h,k,o,ho=>by
  unfold Nq at h
  split at h
  ·rename_i h1 h2
   cases k with
   |zero=>
    simp at ho;subst ho
    exact⟨cD.1 h1,fun q hq=>dz h2 q hq⟩
   |succ k=>
    have:=sQ h k o (by simpa using ho)
    rw[show i+1+k=i+(k+1) by omega]at this
    exact this
  ·cases h
theorem Hl{P:Program}{L:List Oper}{Q:Exit→Act→World→Prop}:∀(S:List Oper) (m fuel:Nat) (listed:Array Bool) (a:Act) (w:World),L.drop m=S→m≤L.length→listed.size=L.length→(∀k,k < m→listed.getD k false=true)→
 (∀k,m≤k→listed.getD k false=false)→S.length≤fuel→
 (∀(k:Nat) (o:Oper),m < k→L[k]? =some o→(k - 1)∈fi o.after.toList)→(∀(k:Nat) (o:Oper),m≤k→L[k]? =some o→∀q∈fi o.after.toList,q < k)→
 wpList P L.toArray Q S a w→wpAny P .any L.toArray Q fuel listed a w
 |[],m,fuel,listed,a,w,hS,hm,cM,hd,hu,hf,h1,h2,hw=>by
  have Ft:m=L.length:=by
   have:=congrArg List.length hS
   simp at this;omega
  have hr:Region.ready .any L.toArray listed=[]:=by
   rw[cG]
   intro j hj
   obtain⟨g1,o,g2,_⟩:=mem_ready.1 hj
   have fg:j < L.length:=by simpa using(bd.1 g2).1
   have Qq:j < listed.size:=by omega
   have:=hd j (by omega)
   simp[Array.getD,Qq]at g1 this
   rw[this]at g1;cases g1
  cases fuel with
  |zero=>exact⟨hr,hw⟩
  |succ fuel=>exact⟨fun _=>hw,fun i hi=>by rw[hr]at hi;cases hi⟩
 |o::r,m,fuel,listed,a,w,hS,hm,cM,hd,hu,hf,h1,h2,hw=>by
  have Ft:m < L.length:=by
   rcases bJ m L.length with h|h
   ·exact h
   ·rw[jf h]at hS;cases hS
  have Xz:L[m]? =some o:=by
   have:=congrArg (fun l=>l[0]?) hS
   simpa using this
  have w9:L.drop (m+1)=r:=by
   have:=congrArg List.tail hS
   simpa using this
  cases fuel with
  |zero=>simp at hf
  |succ fuel=>
   refine⟨fun hr=>?_,fun i hi=>?_⟩
   ·exfalso
    have:m∈Region.ready .any L.toArray listed:=by
     rw[mem_ready]
     refine⟨?_,o,by simpa using Xz,fun e he hb=>?_⟩
     ·have Zl:m < listed.size:=by omega
      have:=hu m (ay _)
      simp[Array.getD,Zl]at this⊢;exact this
     ·exact hd _ (h2 m o (ay _) Xz _ (pF (by simpa using he) hb))
    rw[hr]at this;cases this
   ·obtain⟨g1,o',g2,g3⟩:=mem_ready.1 hi
    have sb:i < L.length:=by simpa using(bd.1 g2).1
    have mT:i < listed.size:=by omega
    have TC:L[i]? =some o':=by simpa using g2
    have Zy:i=m:=by
     rcases bI i m with h|h|h
     ·exfalso
      have:=hd i h
      simp[Array.getD,mT]at g1 this
      rw[this]at g1;cases g1
     ·exact h
     ·exfalso
      obtain⟨e,he,hb,OR⟩:=qQ (h1 i o' h TC)
      have:=g3 e (by simpa using he) hb
      rw[OR,hu (i - 1) (by omega)]at this;cases this
    subst Zy
    have Zg:o'=o:=by rw[Xz]at TC;injection TC with TC;exact TC.symm
    subst Zg
    have Lk:∀a w,wpList P L.toArray Q r a w→wpAny P .any L.toArray Q fuel (listed.setIfInBounds i true) a w:=fun a w hw=>
     Hl r (i+1) fuel (listed.setIfInBounds i true) a w w9 (by omega) (by simpa using cM) (fun k hk=>by
      by_cases sB:k=i
      ·subst sB;exact gE mT
      ·rw[getD_set_ne false (fun e=>sB e.symm)];exact hd k (by omega))
      (fun k hk=>by rw[getD_set_ne false (by omega)];exact hu k (by omega)) (by simp at hf;omega) (fun k o hk ho=>h1 k o (by omega) ho) (fun k o hk ho=>h2 k o (by omega) ho) hw
    unfold wpList at hw
    unfold wpOp
    simp only[b8,TC]
    split at hw
    ·rename_i Fe
     rw[if_pos Fe]
     rcases hw with hw|hw
     ·exact .inl (Oper.wp_mono (fun a' w' h'=>Lk a' w' h') hw)
     ·exact .inr hw
    ·rename_i Fe
     rw[if_neg Fe]
     exact Lk _ _ hw
def V3(C:Ctx)(n:Nat)(L:List Oper)(tm:TM)(Ma Mb:MM)(o:Oper):Prop:=
 ∃d s,o.dst=some d∧(d,s)∈tm∧
    ∀tm',eO L tm o tm'→∀(a:Act) (w:World) (K:Act→World→Prop) (Q:Exit→Act→World→Prop),Has C n tm' Ma a w→
     (∀Eo a' w',(∀p∈tm',p.1≠d→p∈Eo)→(d,s)∈Eo→Has C n Eo Mb a' w'→K a' w')→
     if Region.wanted o (yielded L.toArray a.tmps)then o.wp C.P a w K Q else K (a.put o.dst undef) w
section
variable {C:Ctx} {n:Nat} {bs:MM} {L:List Oper} {cq tm:TM} {l:List Oper} {o:Oper} {d i j:Nat} {s:ST}
theorem V3.grow{Ma Mb:MM}(h:V3 C n L tm Ma Mb o)(hd:o.dst≠some d)(hl:d∉aI L o):V3 C n L ((d,s)::bo tm d) Ma Mb o:=by
 obtain⟨d',s',e1,e2,h⟩:=h
 exact⟨d',s',e1,ab _ (b9 e2 fun e=>hd (e▸e1)),fun tm' hL=>h tm' (hL.back hl)⟩
structure GS(C:Ctx)(n:Nat)(bs:MM)(L:List Oper)(cq:TM)(mm:MM)(Es:List Nat)(Ms:List MM)(ahead l:List Oper)(i:Nat)(tm:TM):Prop where
 ok:∀(j:Nat) (o:Oper),j < i→L[j]? =some o→j∉Es→PX C n bs L tm o
 QG:∀(k e:Nat) (o:Oper),Es[k]? =some e→L[e]? =some o→∃Ma Mb,Ms[k]? =some Ma∧Ms[k+1]? =some Mb∧V3 C n L tm Ma Mb o
 TH:∀e∈Es,e < i
 chain:∀(k e f:Nat),Es[k]? =some e→Es[k+1]? =some f→∃o,L[f]? =some o∧e∈fi o.after.toList
 Rq:Ms.length=Es.length+1
 VA:∀M∈Ms,∀q∈bs,q∈M
 m0:Ms[0]? =some mm
 keys:∀p∈tm,∀q∈tm,p.1=q.1→p=q
 base:∀p∈tm,p.1∉bP L→p∈cq
 I9:kV L ahead l i=true
 whole:L=ahead.reverse++l
 len:ahead.length=i
def GOps(C:Ctx)(n:Nat)(bs:MM)(L:List Oper)(cq:TM)(mm:MM)(i:Nat)(l:List Oper)(tm:TM)(cur:MM)(last:Option Nat)(T:TM→MM→Prop):Prop:=
 ∀(ahead:List Oper) (Es:List Nat) (Ms:List MM),GS C n bs L cq mm Es Ms ahead l i tm→Ms[Es.length]? =some cur→Es.getLast?=last→
  ∃cN YH YG FP,T cN FP∧GS C n bs L cq mm YH YG L.reverse [] L.length cN∧YG[YH.length]? =some FP
variable {T:TM→MM→Prop} {mm cur:MM} {last:Option Nat}
theorem GOps.nil(h:T tm cur):GOps C n bs L cq mm i [] tm cur last T:=fun ahead Es Ms hs hc _=>by
 have hL:L=ahead.reverse:=by have:=hs.whole;rwa [et]at this
 have hi:i=L.length:=by rw[hL,dZ,hs.len]
 have ha:ahead=L.reverse:=by rw[hL,List.reverse_reverse]
 subst hi
 rw[←ha]
 exact⟨tm,Es,Ms,cur,h,hs,hc⟩
theorem GS.here{Es:List Nat}{Ms:List MM}{ahead:List Oper}(hs:GS C n bs L cq mm Es Ms ahead (o::l) i tm):L[i]? =some o:=by
 have h1:=hs.whole
 have h2:ahead.reverse.length=i:=by rw[dZ,hs.len]
 rw[h1,aN (by omega)]
 simp[h2]
theorem GS.before{Es:List Nat}{Ms:List MM}{ahead:List Oper}(hs:GS C n bs L cq mm Es Ms ahead (o::l) i tm){o':Oper}(hj:j < i)(h:L[j]? =some o'):o'∈ahead:=by
 have h1:=hs.whole
 have h2:ahead.reverse.length=i:=by rw[dZ,hs.len]
 rw[h1,aw (by omega)]at h
 simpa using aj h
theorem GS.next{Es:List Nat}{Ms:List MM}{ahead:List Oper}(hs:GS C n bs L cq mm Es Ms ahead (o::l) i tm)(hd:o.dst=some d)(b6:d∉aI L o→PX C n bs L ((d,s)::bo tm d) o):
 GS C n bs L cq mm Es Ms (o::ahead) l (i+1) ((d,s)::bo tm d):=by
 obtain⟨h2,h3,h4,h5⟩:=hU hs.I9
 obtain⟨h6,h7⟩:=h5 d hd
 have eA:o∈L:=by rw[hs.whole];simp
 refine⟨fun j o' hj dv OL=>?_,fun k e o' he dv=>?_,fun e he=>jM (hs.TH e he),hs.chain,hs.Rq,hs.VA,hs.m0,mP hs.keys,fun p hp hn=>?_,h4,by rw[hs.whole];simp,by simp[hs.len]⟩
 ·by_cases lz:j=i
  ·subst lz
   rw[hs.here]at dv;injection dv with dv;subst dv
   exact b6 h7
  ·have fg:j < i:=by omega
   obtain⟨k1,k2⟩:=eZ h6 o' (hs.before fg dv)
   exact(hs.ok j o' fg dv OL).grow k1 k2
 ·obtain⟨Ma,Mb,g1,g2,g3⟩:=hs.QG k e o' he dv
  obtain⟨k1,k2⟩:=eZ h6 o' (hs.before (hs.TH e (aj he)) dv)
  exact⟨Ma,Mb,g1,g2,g3.grow k1 k2⟩
 ·rcases ae.1 hp with rfl|hp
  ·exact absurd (eH eA hd) hn
  ·exact hs.base p (cj hp).1 hn
theorem GOps.step(hg:aY L (aX (aI L o) tm) o=some true)
 (h:∀mm',(∀q∈bs,q∈mm')→(∀p∈mm',∀q∈mm',p.1=q.1→p=q)→M8 C n mm' o (aX (aI L o) tm) d s)(hd:o.dst=some d)
 (k:GOps C n bs L cq mm (i+1) l ((d,s)::bo tm d) cur last T):GOps C n bs L cq mm i (o::l) tm cur last T:=fun ahead Es Ms hs hc hl=>
 k _ Es Ms (hs.next hd fun uV=>⟨d,s,hd,ah,fun tm' mm' hL hb a w K Q hh hK=>by
   have Be:eO L tm o tm':=hL.back uV
   rw[if_pos (eW hg Be hh)]
   exact(h mm' hb (o2 hh)).2 tm' (fun p hp=>Be p (dk.1 hp).1 (dk.1 hp).2) a w K Q hh hK⟩) hc hl
theorem GOps.skip(hg:aY L (aX (aI L o) tm) o=some false)(hd:o.dst=some d)(hn:Nat.blt d n=true)
 (k:GOps C n bs L cq mm (i+1) l ((d,.fo [])::bo tm d) cur last T):GOps C n bs L cq mm i (o::l) tm cur last T:=fun ahead Es Ms hs hc hl=>
 k _ Es Ms (hs.next hd fun uV=>⟨d,_,hd,ah,fun tm' mm' hL hb a w K Q hh hK=>by
   have Be:eO L tm o tm':=hL.back uV
   rw[if_neg (by rw[eW hg Be hh];simp)]
   obtain⟨H,Z,hm⟩:=hh
   rw[hd]
   exact hK _ _ ⟨H,Z,hm.Ep (a6.mp hn) ⟨#[],rfl,rfl,fun j c hc=>by simp at hc⟩⟩⟩) hc hl
def Qc(af:List Nat):Option Nat→Bool
 |none=>true
 |some e=>eV af e
theorem GOps.QG{Mi:MM}(hg:aY L (aX (aI L o) tm) o=some true)(h:∀tm',PW C n o (aX (aI L o) tm++tm') cur ((d,s)::bo (aX (aI L o) tm++tm') d) Mi)
 (hd:o.dst=some d)(Fu:Qc (fi o.after.toList) last=true)(hb:∀q∈bs,q∈Mi)
 (k:GOps C n bs L cq mm (i+1) l ((d,s)::bo tm d) Mi (some i) T):GOps C n bs L cq mm i (o::l) tm cur last T:=fun ahead Es Ms hs hc hl=>by
 obtain⟨h2,h3,h4,h5⟩:=hU hs.I9
 obtain⟨h6,h7⟩:=h5 d hd
 have eA:o∈L:=by rw[hs.whole];simp
 have Ft:=hs.Rq
 refine k (o::ahead) (Es++[i]) (Ms++[Mi]) ⟨fun j o' hj dv OL=>?_,fun q e o' he dv=>?_,fun e he=>?_,fun q e f he hf=>?_,by simp[Ft],fun M hM q hq=>?_,?_,mP hs.keys,fun p hp hn=>?_,h4,by rw[hs.whole];simp,by simp[hs.len]⟩ ?_ (by simp)
 ·have lz:j≠i:=fun e=>OL (by rw[e];simp)
  have fg:j < i:=by omega
  obtain⟨k1,k2⟩:=eZ h6 o' (hs.before fg dv)
  exact(hs.ok j o' fg dv (fun h=>OL (dN _ h))).grow k1 k2
 ·rcases bJ q Es.length with hq|hq
  ·rw[aw hq]at he
   obtain⟨Ma,Mb,g1,g2,g3⟩:=hs.QG q e o' he dv
   obtain⟨k1,k2⟩:=eZ h6 o' (hs.before (hs.TH e (aj he)) dv)
   exact⟨Ma,Mb,by rw[aw (by omega)];exact g1,by rw[aw (by omega)];exact g2,g3.grow k1 k2⟩
  ·have A5:q=Es.length:=by
    have:=(ai.1 he).1
    simp at this;omega
   subst A5
   rw[aN (ay _)]at he
   simp at he;subst he
   rw[hs.here]at dv;injection dv with dv;subst dv
   refine⟨cur,Mi,by rw[aw (by omega)];exact hc,by rw[aN (by omega)];simp[Ft],d,s,hd,ah,fun tm' hL a w K Q hh hK=>?_⟩
   have Be:eO L tm o tm':=hL.back h7
   rw[if_pos (eW hg Be hh)]
   refine h tm' a w K Q (hh.kX fun p hp=>?_) fun a' w' h'=>hK _ a' w' (fun p hp tk=>?_) ah h'
   ·rcases aK.1 hp with hp|hp
    ·exact Be p (dk.1 hp).1 (dk.1 hp).2
    ·exact hp
   ·exact ab _ (b9 (bQ _ hp) tk)
 ·rcases aK.1 he with he|he
  ·exact jM (hs.TH e he)
  ·simp at he;omega
 ·rcases bJ (q+1) Es.length with hq|hq
  ·rw[aw (by omega)]at he
   rw[aw hq]at hf
   exact hs.chain q e f he hf
  ·have A5:q+1=Es.length:=by
    have:=(ai.1 hf).1
    simp at this;omega
   rw[aN (by omega)]at hf
   rw[aw (by omega)]at he
   have:f=i:=by simp[A5]at hf;exact hf.symm
   subst this
   refine⟨o,hs.here,?_⟩
   have hle:Es.getLast?=some e:=by rw[List.getLast?_eq_getElem?,show Es.length - 1=q by omega];exact he
   rw[←hl,hle]at Fu
   exact cD.1 Fu
 ·rcases aK.1 hM with hM|hM
  ·exact hs.VA M hM q hq
  ·simp at hM;subst hM;exact hb q hq
 ·rw[aw (by omega)];exact hs.m0
 ·rcases ae.1 hp with rfl|hp
  ·exact absurd (eH eA hd) hn
  ·exact hs.base p (cj hp).1 hn
 ·rw[aN (by simp;omega)]
  simp[Ft]
theorem BP{S:List Oper}{o:Oper}{a:Act}(h:∀j b,o.guard=some (j,b)→j < L.length):Region.wanted o (yielded (L++S).toArray a.tmps)=Region.wanted o (yielded L.toArray a.tmps):=by
 unfold Region.wanted
 split
 ·rfl
 ·rename_i j want hg
  have hj:=h j want hg
  have:yielded (L++S).toArray a.tmps j=yielded L.toArray a.tmps j:=by
   unfold yielded
   simp[aw hj]
  rw[this]
theorem Vk{S:List Oper}{z:Oper}{Es:List Nat}{Ms:List MM}{cN:TM}{P:TM→MM→Prop}{FP:MM}(hs:GS C n bs L cq mm Es Ms L.reverse [] L.length cN)(Xq:Ms[Es.length]? =some FP)(b6:kV L [] L 0=true)
 (hz:S[0]? =some z)(Fw:∀k,k < L.length→k∈fi z.after.toList∨∃o∈L,k∈fi o.after.toList)
 (Um:∀(k:Nat) (o:Oper),0 < k→S[k]? =some o→(L.length+k - 1)∈fi o.after.toList)(Wx:∀(k:Nat) (o:Oper),S[k]? =some o→∀q∈fi o.after.toList,q < L.length+k)
 (M7:∀o∈L,∀j b,o.guard=some (j,b)→j < L.length)(hP:SOps C n (L++S).toArray S cN FP P):
 ∀(fuel:Nat) (listed:Array Bool) (k:Nat) (M:MM) (a:Act) (w:World) (tm:TM),listed.size=(L++S).length→(∀j,L.length≤j→listed.getD j false=false)→(listed.toList.filter (!·)).length≤fuel→(∀p,mQ L listed cN p→p∈tm)→
  (∀j e,Es[j]? =some e→(listed.getD e false=true↔j < k))→k≤Es.length→(∀j o,L[j]? =some o→listed.getD j false=true→∀i∈fi o.after.toList,listed.getD i false=true)→Ms[k]? =some M→Has C n tm M a w→
  wpAny C.P .any (L++S).toArray (QT C n P) fuel listed a w:=by
 have ZY:0 < S.length:=(ai.1 hz).1
 have Xy:(L++S)[L.length]? =some z:=by rw[aN (ay _)];simpa using hz
 have OW:∀k,k < L.length→(L++S)[k]? =L[k]? :=fun k hk=>aw hk
 have FD:∀(k:Nat) (o:Oper),L[k]? =some o→∀q∈fi o.after.toList,q < k:=fun k o ho q hq=>by
  obtain⟨_,h3⟩:=fv b6 k o ho
  have:=dz h3 q hq;omega
 have oU:∀p q (hp:p < Es.length) (hq:q < Es.length),p < q→Es[p] < Es[q]:=by
  intro p q hp hq kl
  induction q with
  |zero=>omega
  |succ q Uc=>
   obtain⟨o',dv,qW⟩:=hs.chain q _ _ (aa (by omega)) (aa hq)
   have bj:=FD _ o' dv _ qW
   by_cases Ll:p=q
   ·subst Ll;omega
   ·have:=Uc (by omega) (by omega);omega
 intro fuel
 induction fuel with
 |zero=>
  intro listed k M a w tm cM Tn hc hk cZ j7 vp LK hh
  exfalso
  have hm:false∈listed.toList.filter (!·):=by
   rw[cn]
   have Zp:L.length < listed.size:=by rw[cM,au];omega
   have:listed[L.length]=false:=by have:=Tn L.length (ay _);simpa[Array.getD,Zp]using this
   exact⟨by rw[←this];simp,rfl⟩
  have:=dU hm
  omega
 |succ fuel ih=>
  intro listed k M a w tm cM Tn hc hk cZ j7 vp LK hh
  have hszL:listed.size=L.length+S.length:=by rw[cM,au]
  by_cases gf:∀j,j < L.length→listed.getD j false=true
  ·
   have UH:k=Es.length:=by
    rcases bJ k Es.length with h|h
    ·have he:Es[k]? =some Es[k]:=aa h
     have:=(cZ k _ he).1 (gf _ (hs.TH _ (an h)))
     omega
    ·omega
   subst UH
   have Z4:M=FP:=by rw[Xq]at LK;injection LK with LK;exact LK.symm
   subst Z4
   have XF:Has C n cN M a w:=hh.kX fun p hp=>hk p ⟨hp,by
    by_cases hd:p.1∈bP L
    ·obtain⟨k,o,h1,h2⟩:=eI hd
     exact .inr ⟨k,o,h1,h2,gf k (ai.1 h1).1⟩
    ·exact .inl hd⟩
   refine Hl S L.length (fuel+1) listed a w (by simp) (by simp) cM gf Tn ?_ (fun k o hk ho=>?_) (fun k o hk ho=>?_) (hP a w XF)
   ·refine dB ?_ hc
    have h1:(listed.toList.drop L.length).filter (!·)=listed.toList.drop L.length:=by
     rw[List.filter_eq_self]
     intro x hx
     obtain⟨j,hj,rfl⟩:=aC.1 hx
     simp only[dV,kQ]at hj
     rw[List.getElem_drop]
     have:=Tn (L.length+j) (by omega)
     have Qq:L.length+j < listed.size:=by omega
     simp[Array.getD,Qq]at this
     simpa using this
    have h2:((listed.toList.drop L.length).filter (!·)).length≤(listed.toList.filter (!·)).length:=((List.drop_sublist _ _).filter _).length_le
    rw[h1,dV,kQ]at h2
    omega
   ·rw[aN (by omega)]at ho
    have:=Um (k - L.length) o (by omega) ho
    rwa [show L.length+(k - L.length) - 1=k - 1 by omega]at this
   ·rw[aN (by omega)]at ho
    intro q hq
    have:=Wx (k - L.length) o ho q hq
    omega
  ·
   have Fp:L.length∉Region.ready .any (L++S).toArray listed:=fun hi=>by
    refine gf fun j hj=>?_
    obtain⟨_,o,h2,h3⟩:=mem_ready.1 hi
    have WJ:o=z:=by
     have:(L++S)[L.length]? =some o:=by simpa using h2
     rw[Xy]at this;injection this with this;exact this.symm
    subst WJ
    have key:∀m,∀k,k+m=L.length→0 < m→listed.getD k false=true:=by
     intro m
     induction m using Nat.strongRecOn with
     |_ m Wl=>
      intro k VT RW
      rcases Fw k (by omega)with W0|⟨o',dv,UF⟩
      ·obtain⟨e,he,hb,OR⟩:=qQ W0
       have:=h3 e (by simpa using he) hb
       rwa [OR]at this
      ·obtain⟨j,hj,UI⟩:=aC.1 dv
       have QA:L[j]? =some o':=by rw[aa hj,UI]
       have Lw:=FD j o' QA k UF
       exact vp j o' QA (Wl (L.length - j) (by omega) j (by omega) (by omega)) k UF
    exact key (L.length - j) j (by omega) (by omega)
   refine⟨fun hr=>?_,fun i hi=>?_⟩
   ·exfalso
    refine gf fun k=>?_
    induction k using Nat.strongRecOn with
    |_ k YS=>
     intro Iy
     cases hl:listed.getD k false with
     |true=>rfl
     |false=>
      have dX:k∈Region.ready .any (L++S).toArray listed:=by
       rw[mem_ready]
       refine⟨?_,L[k],by rw[b8,OW k Iy,aa Iy],fun e he hb=>?_⟩
       ·have Lx:k < listed.size:=by omega
        simp[Array.getD,Lx]at hl⊢;exact hl
       ·have h4:=pF (l:=L[k].after.toList) (by simpa using he) hb
        have h5:=FD k L[k] (aa Iy) _ h4
        exact YS e.on h5 (by omega)
      rw[hr]at dX;cases dX
   obtain⟨h1,o,h2,h3⟩:=mem_ready.1 hi
   have sb:i < (L++S).length:=by simpa using(bd.1 h2).1
   have mT:i < listed.size:=by omega
   have iO:listed[i]=false:=by simpa[Array.getD,mT]using h1
   have ia:listed.getD i false=false:=by simpa[Array.getD,mT]using iO
   have qt:∀j,j∈fi o.after.toList→listed.getD j false=true:=by
    intro j hj
    obtain⟨e,he,hb,OR⟩:=qQ hj
    have:=h3 e (by simpa using he) hb
    rwa [OR]at this
   have Yg:i < L.length:=by
    rcases bI i L.length with h|h|h
    ·exact h
    ·exact absurd (h▸hi) Fp
    ·exfalso
     have ho:S[i - L.length]? =some o:=by
      have:(L++S)[i]? =some o:=by simpa using h2
      rwa [aN (by omega)]at this
     have:=qt _ (Um (i - L.length) o (by omega) ho)
     rw[show L.length+(i - L.length) - 1=i - 1 by omega,Tn (i - 1) (by omega)]at this;cases this
   have hL:L[i]? =some o:=by
    have:(L++S)[i]? =some o:=by simpa using h2
    rwa [OW i Yg]at this
   obtain⟨hw,_⟩:=fv b6 i o hL
   have dn:eO L cN o tm:=by
    intro p hp hl
    refine hk p ⟨hp,?_⟩
    by_cases hd:p.1∈bP L
    ·obtain⟨k,o',k1,k2⟩:=eI hd
     have:=iK hw k o' p.1 k1 k2 hl
     exact .inr ⟨k,o',k1,k2,qt k (by simpa using this)⟩
    ·exact .inl hd
   have gp:((listed.setIfInBounds i true).toList.filter (!·)).length≤fuel:=by
    have h5:((listed.setIfInBounds i true).toList.filter (!·)).length+1=(listed.toList.filter (!·)).length:=by
     rw[show(listed.setIfInBounds i true).toList=listed.toList.set i true by simp]
     exact count_set (by simp[mT,iO])
    omega
   have j6:(listed.setIfInBounds i true).size=(L++S).length:=by simpa using cM
   have other:∀k,k≠i→(listed.setIfInBounds i true).getD k false=listed.getD k false:=fun k hk=>getD_set_ne false (Ne.symm hk)
   have r8:(listed.setIfInBounds i true).getD i false=true:=gE mT
   have Ui:∀j,L.length≤j→(listed.setIfInBounds i true).getD j false=false:=fun j hj=>by rw[other j (by omega)];exact Tn j hj
   have Bb:∀j o,L[j]? =some o→(listed.setIfInBounds i true).getD j false=true→∀q∈fi o.after.toList,(listed.setIfInBounds i true).getD q false=true:=by
    intro j o' dv hj q hq
    have rm:listed.getD q false=true:=by
     by_cases lz:j=i
     ·subst lz
      rw[hL]at dv;injection dv with dv;subst dv
      exact qt q hq
     ·rw[other j lz]at hj
      exact vp j o' dv hj q hq
    by_cases nv:q=i
    ·rw[nv];exact r8
    ·rw[other q nv];exact rm
   have qu:∀(d:Nat) (s:ST) (tm':TM),o.dst=some d→(d,s)∈cN→(∀p∈tm,p.1≠d→p∈tm')→(d,s)∈tm'→∀p,mQ L (listed.setIfInBounds i true) cN p→p∈tm':=by
    rintro d s tm' e1 e2 ht Jd p ⟨g1,g2⟩
    by_cases tk:p.1=d
    ·have:p=(d,s):=hs.keys p g1 (d,s) e2 tk
     rw[this];exact Jd
    ·refine ht p (hk p ⟨g1,?_⟩) tk
     rcases g2 with g2|⟨q,o',q1,q2,q3⟩
     ·exact .inl g2
     ·refine .inr ⟨q,o',q1,q2,?_⟩
      have nv:q≠i:=by
       intro e;subst e
       rw[hL]at q1;injection q1 with q1;subst q1
       rw[e1]at q2;injection q2 with q2;exact tk q2.symm
      rwa [other q nv]at q3
   unfold wpOp
   have sE:(L++S)[i]? =some o:=by simpa using h2
   simp only[b8,sE]
   have fin:∀{K:Prop} {W:Prop} [Decidable W] {A B:Prop},(if W then A else K)→(if W then A∨B else K):=by
    intro K W _ A B h
    split
    ·rename_i hw;rw[if_pos hw]at h;exact .inl h
    ·rename_i hw;rw[if_neg hw]at h;exact h
   refine fin ?_
   rw[BP (S:=S) (a:=a) (M7 o (aj hL))]
   by_cases lg:i∈Es
   ·obtain⟨j,hj,lz⟩:=aC.1 lg
    have Dr:Es[j]? =some i:=by rw[aa hj,lz]
    have OJ:j=k:=by
     have g1:¬j < k:=fun h=>by
      have:=(cZ j i Dr).2 h
      rw[ia]at this;cases this
     rcases bI j k with h|h|h
     ·exact absurd h g1
     ·exact h
     ·exfalso
      obtain⟨j',rfl⟩:∃j',j=j'+1:=⟨j - 1,by omega⟩
      obtain⟨o',dv,qW⟩:=hs.chain j' _ _ (aa (by omega)) Dr
      rw[hL]at dv;injection dv with dv;subst dv
      have:=(cZ j' _ (aa (by omega))).1 (qt _ qW)
      omega
    subst OJ
    obtain⟨Ma,Mb,g1,g2,d,s,e1,e2,h⟩:=hs.QG j i o Dr hL
    have Z5:M=Ma:=by rw[g1]at LK;injection LK with LK;exact LK.symm
    subst Z5
    refine h tm dn a w _ _ hh fun tm' a' w' ht Jd h'=>ih _ (j+1) Mb a' w' tm' j6 Ui gp (qu d s tm' e1 e2 ht Jd) (fun j' e' ma=>?_) (by omega) Bb g2 h'
    by_cases he:e'=i
    ·subst he
     have A8:j'=j:=by
      obtain⟨A9,UJ⟩:=ai.1 ma
      rcases bI j' j with h|h|h
      ·have:=oU _ _ A9 hj h;omega
      ·exact h
      ·have:=oU _ _ hj A9 h;omega
     subst A8
     simp[r8]
    ·rw[other _ he]
     have:=cZ j' e' ma
     have cV:j'≠j:=fun e=>he (by subst e;rw[Dr]at ma;injection ma with ma;exact ma.symm)
     rw[this];omega
   ·obtain⟨d,s,e1,e2,h⟩:=hs.ok i o Yg hL lg
    refine h tm M dn (hs.VA M (aj LK)) a w _ _ hh fun a' w' h'=>ih _ k M a' w' _ j6 Ui gp (qu d s _ e1 e2 (fun p hp tk=>ab _ (b9 hp tk)) ah) (fun j' e' ma=>?_) j7 Bb LK h'
    rw[other _ (fun q=>lg (by rw[←q];exact aj ma))]
    exact cZ j' e' ma
theorem GZ(m:Nat)(ids:List Nat){Lf A S:List Oper}{z:Oper}{f:FuncId}{R:Ending→World→Prop}{k:List Item}{id:Nat}{tm:TM}{mm:MM}(mq:C.P.follows .mixedOrders=true)(yp:sN m Lf=some (A,S))(b6:kV A [] A 0=true)(hu:rD (bP A) (gB (bP A) tm)=true)
 (hz:qR S 0=some z)(Fw:xx A (fi z.after.toList) A.length=true)(BD:nq (fi z.after.toList) A.length=true)(Um:Nq (A.length+1) S.tail=true)(M7:pT A.length A=true)
 (h:GOps C n (fO ids mm) A (gB (bP A) tm) mm 0 A (gB (bP A) tm) mm none (fun cN cur=>SOps C n Lf.toArray S cN cur (fun Eo Rp=>Goes C f n R k Eo Rp))):Goes C f n R (.code (.region id Lf.toArray true)::k) tm mm:=by
 have XA:=yR yp
 subst XA
 obtain⟨u1,u2⟩:=jW hu
 have lx:GS C n (fO ids mm) A (gB (bP A) tm) mm [] [mm] [] A 0 (gB (bP A) tm):=
  {ok:=fun j o hj=>by omega
   QG:=fun k e o he=>by simp at he
   TH:=fun e he=>by cases he
   chain:=fun k e f he=>by simp at he
   Rq:=rfl
   VA:=fun M hM q hq=>by
    rw[aq.1 hM]
    exact(eR.1 hq).1
   m0:=rfl
   keys:=u2
   base:=fun p hp _=>hp
   I9:=b6
   whole:=rfl
   len:=rfl}
 obtain⟨cN,Es,Ms,FP,hg,hs,Xq⟩:=h [] [] [mm] lx J J
 intro a w Xc b cs hb hk
 have hh:Has C n (gB (bP A) tm) mm a w:=Xc.kX fun _ hp=>jG hp
 have X0:S[0]? =some z:=by rw[←ln];exact hz
 have jR:∀k,(Array.replicate (A++S).length false).getD k false=false:=fun k=>by
  by_cases hk:k < (A++S).length
  ·simp[Array.getD,au]
  ·simp[Array.getD,au]
 have C7:∀(k:Nat) (o:Oper),0 < k→S[k]? =some o→S.tail[k - 1]? =some o:=fun k o hk ho=>by
  rw[List.getElem?_tail,show k - 1+1=k by omega];exact ho
 have o3:=Vk (z:=z) (P:=fun tm' mm'=>Goes C f n R k tm' mm') hs Xq b6 X0 (q9 Fw) (fun k o hk ho=>by
  have:=(sQ Um (k - 1) o (C7 k o hk ho)).1
  rwa [show A.length+1+(k - 1) - 1=A.length+k - 1 by omega]at this)
  (fun k o ho q hq=>by
    by_cases hk:k=0
    ·subst hk
     rw[X0]at ho;injection ho with ho;subst ho
     have:=dz BD q hq;omega
    ·have:=(sQ Um (k - 1) o (C7 k o (by omega) ho)).2 q hq
     omega)
  (kY M7) hg (A++S).length (Array.replicate (A++S).length false) 0 mm a {w with drawn:=w.drawn+1} (gB (bP A) tm) (by simp) (fun j _=>jR j)
  (by rw[show(Array.replicate (A++S).length false).toList=List.replicate (A++S).length false by simp];exact dB (cR _ _) (by simp))
  (fun p hp=>by
    obtain⟨g1,g2|⟨k,o,k1,k2,k3⟩⟩:=hp
    ·exact hs.base p g1 g2
    ·rw[jR k]at k3;cases k3)
  (fun j e _=>by rw[jR e];simp) (aF _) (fun j o _ hj=>by rw[jR j]at hj;cases hj) hs.m0 hh.drawn
 have K9:=wp_region_any (id:=id) (Q:=QT C n (fun tm' mm'=>Goes C f n R k tm' mm')) (ops:=(A++S).toArray) (a:=a) (w:=w) mq (by simpa using o3)
 obtain⟨e,a',w',hq,qi⟩:=K9 b k cs
 cases e with
 |normal=>
  obtain⟨tm',mm',hg,IC⟩:=hq
  obtain⟨e,yc,fr,g1,g2,g3⟩:=hg a' w' IC b cs hb hk
  exact⟨e,yc,fr,g1,Comes.of_steps qi g2,g3⟩
 |_=>exact hq.elim
inductive PT where
 |stop (i:Nat)(l:List Oper)(tm:TM)
def TE(Θ:da)(n:Nat)(bs:MM)(L:List Oper):Nat→List Oper→TM→PT
 |i,[],tm=>.stop i [] tm
 |i,o::r,tm=>match aY L (aX (aI L o) tm) o with
   |some true=>match o.dst with
    |some d=>match vE Θ (aX (aI L o) tm) bs o.op with
     |some st=>match oC n d st tm with
      |some tm'=>TE Θ n bs L (i+1) r tm'
      |none=>.stop i (o::r) tm
     |none=>.stop i (o::r) tm
    |none=>.stop i (o::r) tm
   |some false=>match o.dst with
    |some d=>match oC n d (.fo []) tm with
     |some tm'=>TE Θ n bs L (i+1) r tm'
     |none=>.stop i (o::r) tm
    |none=>.stop i (o::r) tm
   |none=>.stop i (o::r) tm
theorem tq{Θ:da}(bt:a8 C.P Θ):∀{l:List Oper} {i:Nat} {tm:TM} {i':Nat} {l':List Oper} {tm':TM},
 TE Θ n bs L i l tm=.stop i' l' tm'→GOps C n bs L cq mm i' l' tm' cur last T→GOps C n bs L cq mm i l tm cur last T
 |[],i,tm,i',l',tm',h,k=>by
  simp only[TE,PT.stop.injEq]at h
  obtain⟨rfl,rfl,rfl⟩:=h
  exact k
 |o::r,i,tm,i',l',tm',h,k=>by
  have same:PT.stop i (o::r) tm=.stop i' l' tm'→GOps C n bs L cq mm i (o::r) tm cur last T:=by
   intro e
   injection e with e1 e2 e3
   subst e1 e2 e3
   exact k
  unfold TE at h
  split at h
  ·rename_i hg
   split at h
   ·rename_i d hd
    split at h
    ·rename_i st hv
     split at h
     ·rename_i En hs
      obtain⟨hn,rfl⟩:=gm hs
      exact GOps.step hg (fun mm' hb hu=>(jU bt (qE (kr hb hu) hv) hd hn).Em) hd (tq bt h k)
     ·exact same h
    ·exact same h
   ·exact same h
  ·rename_i hg
   split at h
   ·rename_i d hd
    split at h
    ·rename_i En hs
     obtain⟨hn,rfl⟩:=gm hs
     exact GOps.skip hg hd hn (tq bt h k)
    ·exact same h
   ·exact same h
  ·exact same h
def TX(Θ:da)(n:Nat)(bs:MM)(L:List Oper)(i:Nat)(l:List Oper)(tm:TM):Option PT:=
 match AM tm with
 |some tm'=>some (TE Θ n bs L i l tm')
 |none=>none
theorem lA{Θ:da}(bt:a8 C.P Θ){i':Nat}{l':List Oper}{tm':TM}(h:TX Θ n bs L i l tm=some (.stop i' l' tm'))(k:GOps C n bs L cq mm i' l' tm' cur last T):GOps C n bs L cq mm i l tm cur last T:=by
 unfold TX at h
 split at h
 ·rename_i En h1
  rw[←pK h1]
  injection h with h
  exact tq bt h k
 ·cases h
variable {p q:Operand} {ty rk:TypeId}
theorem EF{st:ST}(h:∀mm',ea C n o (aX (aI L o) tm) mm' d st)(hg:aY L (aX (aI L o) tm) o=some true)(hd:o.dst=some d)
 (k:GOps C n bs L cq mm (i+1) l ((d,st)::bo tm d) cur last T):GOps C n bs L cq mm i (o::l) tm cur last T:=GOps.step hg (fun mm' _ _=>(h mm').Em) hd k
theorem J6{Θ:da}(bt:a8 C.P Θ){nn:Bool}{sz:Nat}{xs:List (List CT)}{kd:IntKind}{m:Int}{e:Nat}{z cz:Nat}{ag:Bool}{zr:Option (List CT)}{ei:fN}
 (ho:o.op=.indexAddr ty p q)(ht:aP Θ ty=some ⟨z,cz,ag,zr,.slice e⟩)(dO:aP Θ e=some ei)(hx:aQ (aX (aI L o) tm) p=some (.c (.slice nn sz xs)))(cM:Nat.beq ei.size sz=true)
 (hi:aQ (aX (aI L o) tm) q=some (.c (.int kd m)))(hd:o.dst=some d)(hn:Nat.blt d n=true)(hg:aY L (aX (aI L o) tm) o=some true)
 (j:Nat)(cs:List CT)(hm:m=(j:Int))(hj:xs[j]? =some cs)(k:GOps C n bs L cq mm (i+1) l ((d,.v (.one (.iw cs)))::bo tm d) cur last T):GOps C n bs L cq mm i (o::l) tm cur last T:=
 EF (fun mm'=>wk bt ho ht dO cM hx hi hm hj hd hn) hg hd k
theorem P6{a b:Int}(ho:o.op=.binOp .add ty p q rk)(hx:aQ (aX (aI L o) tm) p=some (.c (.int .i64 a)))(hy:aQ (aX (aI L o) tm) q=some (.c (.int .i64 b)))(hd:o.dst=some d)(hn:Nat.blt d n=true)(hg:aY L (aX (aI L o) tm) o=some true)
 (hr:-9223372036854775808≤a+b∧a+b≤9223372036854775807)(k:GOps C n bs L cq mm (i+1) l ((d,.v (.one (.c (.int .i64 (a+b)))))::bo tm d) cur last T):GOps C n bs L cq mm i (o::l) tm cur last T:=
 EF (fun mm'=>iE (p:=.add) ho hx hy (IntWalk.i64_in _ hr) hd hn) hg hd k
theorem T1{kd:IntKind}{a b:Int}(ho:o.op=.binOp .rem ty p q rk)(hx:aQ (aX (aI L o) tm) p=some (.c (.int kd a)))(hy:aQ (aX (aI L o) tm) q=some (.c (.int kd b)))(hd:o.dst=some d)(hn:Nat.blt d n=true)(hg:aY L (aX (aI L o) tm) o=some true)
 (hr:b≠0)(k:GOps C n bs L cq mm (i+1) l ((d,.v (.one (.c (.int kd (a.tmod b)))))::bo tm d) cur last T):GOps C n bs L cq mm i (o::l) tm cur last T:=
 EF (fun mm'=>iE (p:=.rem) ho hx hy ⟨hr,rfl⟩ hd hn) hg hd k
theorem Q5{g:FuncId}{args args':List SV}{res:ST}(hc:er C.P g [] args res []){xs:Array Operand}{ts:Array TypeId}
 (ho:o.op=.call {callee:=.value (.func g),args:=xs,argTypes:=ts})(cE:dr (aX (aI L o) tm) xs.toList=some args')(kI:kq [] args=some args')
 (fZ:jt res=true)(hd:o.dst=some d)(hn:Nat.blt d n=true)(hg:aY L (aX (aI L o) tm) o=some true)
 (k:GOps C n bs L cq mm (i+1) l ((d,res)::bo tm d) cur last T):GOps C n bs L cq mm i (o::l) tm cur last T:=
 GOps.step hg (fun mm' _ _=>Cq hc [] ho cE kI J J J fZ hd hn J) hd k
theorem J5{Θ:da}(bt:a8 C.P Θ){t:TypeId}{z cz e len:Nat}{ag:Bool}{zt:Option (List CT)}{ei:fN}{zr:List CT}{parts:Array (Nat×Operand)}{r:List SC}{cts:List CT}{xs:List (List CT)}{ct:CT}
 (ho:o.op=.buildSlice t len parts)(ht:aP Θ t=some ⟨z,cz,ag,zt,.slice e⟩)(dO:aP Θ e=some ei)(hz:ei.zero=some zr)
 (hb:Nat.ble (len * ei.size) 16777216=true)(lx:Nat.blt 0 ei.size=true)
 (hl:nL (fun i=>some (i * ei.size,ei.size)) (aX (aI L o) tm) (tN (len * ei.size)) parts.toList=some r)(hc:iG r=some cts)(hx:mx ei.size len cts=some xs)
 (hd:o.dst=some d)(hn:Nat.blt d n=true)(hg:aY L (aX (aI L o) tm) o=some true)(hle:yB (.slice true ei.size xs) ct)
 (k:GOps C n bs L cq mm (i+1) l ((d,.v (.one (.c ct)))::bo tm d) cur last T):GOps C n bs L cq mm i (o::l) tm cur last T:=
 GOps.step hg (fun _ _ _=>Ko bt ho ht dO hz hb lx hl hc hx hle hd hn) hd k
theorem J7{g:FuncId}{pre post:List (List CT)}{args args':List SV}{res:ST}(hc:er C.P g pre args res post)(ids:List Nat){xs:Array Operand}{ts:Array TypeId}
 (ho:o.op=.call {callee:=.value (.func g),args:=xs,argTypes:=ts})(cE:dr (aX (aI L o) tm) xs.toList=some args')(kI:kq ids args=some args')(dn:sZ cur ids=some pre)
 (mB:lq ids=true)(hlen:post.length=pre.length)(fZ:jt res=true)(hd:o.dst=some d)(hn:Nat.blt d n=true)(hg:aY L (aX (aI L o) tm) o=some true)
 (Fu:Qc (fi o.after.toList) last=true)(hb:∀q∈bs,q∈kn cur ids post)
 (k:GOps C n bs L cq mm (i+1) l ((d,res)::bo tm d) (kn cur ids post) (some i) T):GOps C n bs L cq mm i (o::l) tm cur last T:=
 GOps.QG hg (fun tm'=>AJ hc ids ho (nN cE) kI dn mB hlen fZ hd hn) hd Fu hb k
end
end Go.Sy
