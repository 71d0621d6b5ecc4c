/- Symbolic states: a region that draws its order: its first part reads, and calls functions that change variables, one behind the other; its last part is done in its order. -/
import Derived.Test.YtdjocfajcbhmgaaGreatDoorSy8
import Derived.Test.YtdjocfajcbhmgaaGreatDoorBu1
set_option linter.unusedSimpArgs false
set_option linter.unusedVariables false
set_option linter.unusedSectionVars false
namespace Go.Sy
open Go.RowKit
def rb:Nat→List Oper→Option (List Oper×List Oper)
 |0,l=>some ([],l)
 |_+1,[]=>none
 |m+1,o::r=>match rb m r with
  |some (a,s)=>some (o::a,s)
  |none=>none
theorem wg:∀{m:Nat} {L A S:List Oper},rb m L=some (A,S)→L=A++S
 |0,L,A,S,h=>by simp[rb]at h;obtain⟨rfl,rfl⟩:=h;rfl
 |m+1,[],A,S,h=>by simp[rb]at h
 |m+1,o::r,A,S,h=>by
  unfold rb at h
  split at h
  ·rename_i a s hs
   simp only[ej,Prod.mk.injEq]at h
   obtain⟨rfl,rfl⟩:=h
   rw[cX,←wg hs]
  ·cases h
def JS:Nat→List Oper→Bool
 |_,[]=>true
 |i,o::r=>match fw (fz o.after.toList) (i - 1),mj (fz o.after.toList) i with
  |true,true=>JS (i+1) r
  |_,_=>false
theorem rh:∀{l:List Oper} {i:Nat},JS i l=true→∀(k:Nat) (o:Oper),l[k]? =some o→(i+k - 1)∈fz o.after.toList∧∀q∈fz o.after.toList,q < i+k
 |[],_,_,k,o,h=>by simp at h
 |a::l,i,h,k,o,ho=>by
  unfold JS at h
  split at h
  ·rename_i h1 h2
   cases k with
   |zero=>
    simp at ho;subst ho
    exact⟨cz.1 h1,fun q hq=>dR h2 q hq⟩
   |succ k=>
    have:=rh h k o (by simpa using ho)
    rw[show i+1+k=i+(k+1) by omega]at this
    exact this
  ·cases h
theorem Ee{P:Program}{L:List Oper}{Q:Exit→Act→World→Prop}:∀(S:List Oper) (m fuel:Nat) (listed:Array Bool) (a:Act) (w:World),L.drop m=S→m≤L.length→listed.size=L.length→(∀k,k < m→listed.getD k false=true)→
 (∀k,m≤k→listed.getD k false=false)→S.length≤fuel→
 (∀(k:Nat) (o:Oper),m < k→L[k]? =some o→(k - 1)∈fz o.after.toList)→(∀(k:Nat) (o:Oper),m≤k→L[k]? =some o→∀q∈fz o.after.toList,q < k)→
 wpList P L.toArray Q S a w→wpAny P .any L.toArray Q fuel listed a w
 |[],m,fuel,listed,a,w,hS,hm,c8,hd,hu,hf,h1,h2,hw=>by
  have vJ:m=L.length:=by
   have:=congrArg List.length hS
   simp at this;omega
  have hr:Region.ready .any L.toArray listed=[]:=by
   rw[cW]
   intro j hj
   obtain⟨g1,o,g2,_⟩:=mem_ready.1 hj
   have eC:j < L.length:=by simpa using(bu.1 g2).1
   have Od:j < listed.size:=by omega
   have:=hd j (by omega)
   simp[Array.getD,Od]at g1 this
   rw[this]at g1;cases g1
  cases fuel with
  |zero=>exact⟨hr,hw⟩
  |succ fuel=>exact⟨fun _=>hw,fun i hi=>by rw[hr]at hi;cases hi⟩
 |o::r,m,fuel,listed,a,w,hS,hm,c8,hd,hu,hf,h1,h2,hw=>by
  have vJ:m < L.length:=by
   rcases cn m L.length with h|h
   ·exact h
   ·rw[vm h]at hS;cases hS
  have T3:L[m]? =some o:=by
   have:=congrArg (fun l=>l[0]?) hS
   simpa using this
  have Wf:L.drop (m+1)=r:=by
   have:=congrArg List.tail hS
   simpa using this
  cases fuel with
  |zero=>simp at hf
  |succ fuel=>
   refine⟨fun hr=>?_,fun i hi=>?_⟩
   ·exfalso
    have:m∈Region.ready .any L.toArray listed:=by
     rw[mem_ready]
     refine⟨?_,o,by simpa using T3,fun e he hb=>?_⟩
     ·have VT:m < listed.size:=by omega
      have:=hu m (aA _)
      simp[Array.getD,VT]at this⊢;exact this
     ·exact hd _ (h2 m o (aA _) T3 _ (oi (by simpa using he) hb))
    rw[hr]at this;cases this
   ·obtain⟨g1,o',g2,g3⟩:=mem_ready.1 hi
    have vK:i < L.length:=by simpa using(bu.1 g2).1
    have ng:i < listed.size:=by omega
    have Pz:L[i]? =some o':=by simpa using g2
    have V5:i=m:=by
     rcases cv i m with h|h|h
     ·exfalso
      have:=hd i h
      simp[Array.getD,ng]at g1 this
      rw[this]at g1;cases g1
     ·exact h
     ·exfalso
      obtain⟨e,he,hb,K5⟩:=pw (h1 i o' h Pz)
      have:=g3 e (by simpa using he) hb
      rw[K5,hu (i - 1) (by omega)]at this;cases this
    subst V5
    have VN:o'=o:=by rw[T3]at Pz;injection Pz with Pz;exact Pz.symm
    subst VN
    have H4:∀a w,wpList P L.toArray Q r a w→wpAny P .any L.toArray Q fuel (listed.setIfInBounds i true) a w:=fun a w hw=>
     Ee r (i+1) fuel (listed.setIfInBounds i true) a w Wf (by omega) (by simpa using c8) (fun k hk=>by
      by_cases kS:k=i
      ·subst kS;exact gZ ng
      ·rw[getD_set_ne false (fun e=>kS e.symm)];exact hd k (by omega))
      (fun k hk=>by rw[getD_set_ne false (by omega)];exact hu k (by omega)) (by simp at hf;omega) (fun k o hk ho=>h1 k o (by omega) ho) (fun k o hk ho=>h2 k o (by omega) ho) hw
    unfold wpList at hw
    unfold wpOp
    simp only[cB,Pz]
    split at hw
    ·rename_i Cr
     rw[if_pos Cr]
     rcases hw with hw|hw
     ·exact .inl (Oper.wp_mono (fun a' w' h'=>H4 a' w' h') hw)
     ·exact .inr hw
    ·rename_i Cr
     rw[if_neg Cr]
     exact H4 _ _ hw
def Se(C:Ctx)(n:Nat)(L:List Oper)(tm:TM)(Ma Mb:MM)(o:Oper):Prop:=
 ∃d s,o.dst=some d∧(d,s)∈tm∧
    ∀tm',eN L tm o tm'→∀(a:Act) (w:World) (K:Act→World→Prop) (Q:Exit→Act→World→Prop),Has C n tm' Ma a w→
     (∀BA a' w',(∀p∈tm',p.1≠d→p∈BA)→(d,s)∈BA→Has C n BA Mb a' w'→K a' w')→
     if Region.wanted o (yielded L.toArray a.tmps)then o.wp C.P a w K Q else K (a.put o.dst undef) w
section
variable {C:Ctx} {n:Nat} {bs:MM} {L:List Oper} {cp tm:TM} {l:List Oper} {o:Oper} {d i j:Nat} {s:ST}
theorem Se.grow{Ma Mb:MM}(h:Se C n L tm Ma Mb o)(hd:o.dst≠some d)(hl:d∉aK L o):Se C n L ((d,s)::bw tm d) Ma Mb o:=by
 obtain⟨d',s',e1,e2,h⟩:=h
 exact⟨d',s',e1,ab _ (cd e2 fun e=>hd (e▸e1)),fun tm' hL=>h tm' (hL.back hl)⟩
structure GS(C:Ctx)(n:Nat)(bs:MM)(L:List Oper)(cp:TM)(mm:MM)(Es:List Nat)(Ms:List MM)(ahead l:List Oper)(i:Nat)(tm:TM):Prop where
 ok:∀(j:Nat) (o:Oper),j < i→L[j]? =some o→j∉Es→MP C n bs L tm o
 MF:∀(k e:Nat) (o:Oper),Es[k]? =some e→L[e]? =some o→∃Ma Mb,Ms[k]? =some Ma∧Ms[k+1]? =some Mb∧Se C n L tm Ma Mb o
 PC:∀e∈Es,e < i
 chain:∀(k e f:Nat),Es[k]? =some e→Es[k+1]? =some f→∃o,L[f]? =some o∧e∈fz o.after.toList
 Nt:Ms.length=Es.length+1
 RM:∀M∈Ms,∀q∈bs,q∈M
 m0:Ms[0]? =some mm
 keys:∀p∈tm,∀q∈tm,p.1=q.1→p=q
 base:∀p∈tm,p.1∉bV L→p∈cp
 FO:kX L ahead l i=true
 whole:L=ahead.reverse++l
 len:ahead.length=i
def GOps(C:Ctx)(n:Nat)(bs:MM)(L:List Oper)(cp:TM)(mm:MM)(i:Nat)(l:List Oper)(tm:TM)(cur:MM)(last:Option Nat)(T:TM→MM→Prop):Prop:=
 ∀(ahead:List Oper) (Es:List Nat) (Ms:List MM),GS C n bs L cp mm Es Ms ahead l i tm→Ms[Es.length]? =some cur→Es.getLast?=last→
  ∃dc Vf Ve CP,T dc CP∧GS C n bs L cp mm Vf Ve L.reverse [] L.length dc∧Ve[Vf.length]? =some CP
variable {T:TM→MM→Prop} {mm cur:MM} {last:Option Nat}
theorem GOps.nil(h:T tm cur):GOps C n bs L cp mm i [] tm cur last T:=fun ahead Es Ms hs hc _=>by
 have hL:L=ahead.reverse:=by have:=hs.whole;rwa [cV]at this
 have hi:i=L.length:=by rw[hL,dE,hs.len]
 have ha:ahead=L.reverse:=by rw[hL,List.reverse_reverse]
 subst hi
 rw[←ha]
 exact⟨tm,Es,Ms,cur,h,hs,hc⟩
theorem GS.here{Es:List Nat}{Ms:List MM}{ahead:List Oper}(hs:GS C n bs L cp mm Es Ms ahead (o::l) i tm):L[i]? =some o:=by
 have h1:=hs.whole
 have h2:ahead.reverse.length=i:=by rw[dE,hs.len]
 rw[h1,aO (by omega)]
 simp[h2]
theorem GS.before{Es:List Nat}{Ms:List MM}{ahead:List Oper}(hs:GS C n bs L cp mm Es Ms ahead (o::l) i tm){o':Oper}(hj:j < i)(h:L[j]? =some o'):o'∈ahead:=by
 have h1:=hs.whole
 have h2:ahead.reverse.length=i:=by rw[dE,hs.len]
 rw[h1,aG (by omega)]at h
 simpa using an h
theorem GS.next{Es:List Nat}{Ms:List MM}{ahead:List Oper}(hs:GS C n bs L cp mm Es Ms ahead (o::l) i tm)(hd:o.dst=some d)(b7:d∉aK L o→MP C n bs L ((d,s)::bw tm d) o):
 GS C n bs L cp mm Es Ms (o::ahead) l (i+1) ((d,s)::bw tm d):=by
 obtain⟨h2,h3,h4,h5⟩:=gv hs.FO
 obtain⟨h6,h7⟩:=h5 d hd
 have eL:o∈L:=by rw[hs.whole];simp
 refine⟨fun j o' hj dX K4=>?_,fun k e o' he dX=>?_,fun e he=>jg (hs.PC e he),hs.chain,hs.Nt,hs.RM,hs.m0,lW hs.keys,fun p hp hn=>?_,h4,by rw[hs.whole];simp,by simp[hs.len]⟩
 ·by_cases jc:j=i
  ·subst jc
   rw[hs.here]at dX;injection dX with dX;subst dX
   exact b7 h7
  ·have eC:j < i:=by omega
   obtain⟨k1,k2⟩:=eD h6 o' (hs.before eC dX)
   exact(hs.ok j o' eC dX K4).grow k1 k2
 ·obtain⟨Ma,Mb,g1,g2,g3⟩:=hs.MF k e o' he dX
  obtain⟨k1,k2⟩:=eD h6 o' (hs.before (hs.PC e (an he)) dX)
  exact⟨Ma,Mb,g1,g2,g3.grow k1 k2⟩
 ·rcases ae.1 hp with rfl|hp
  ·exact absurd (eX eL hd) hn
  ·exact hs.base p (b4 hp).1 hn
theorem GOps.step(hg:bp L (bg (aK L o) tm) o=some true)
 (h:∀mm',(∀q∈bs,q∈mm')→(∀p∈mm',∀q∈mm',p.1=q.1→p=q)→JH C n mm' o (bg (aK L o) tm) d s)(hd:o.dst=some d)
 (k:GOps C n bs L cp mm (i+1) l ((d,s)::bw tm d) cur last T):GOps C n bs L cp mm i (o::l) tm cur last T:=fun ahead Es Ms hs hc hl=>
 k _ Es Ms (hs.next hd fun KZ=>⟨d,s,hd,ah,fun tm' mm' hL hb a w K Q hh hK=>by
   have ym:eN L tm o tm':=hL.back KZ
   rw[if_pos (ez hg ym hh)]
   exact(h mm' hb (nK hh)).2 tm' (fun p hp=>ym p (cQ.1 hp).1 (cQ.1 hp).2) a w K Q hh hK⟩) hc hl
theorem GOps.skip(hg:bp L (bg (aK L o) tm) o=some false)(hd:o.dst=some d)(hn:Nat.blt d n=true)
 (k:GOps C n bs L cp mm (i+1) l ((d,.gE [])::bw tm d) cur last T):GOps C n bs L cp mm i (o::l) tm cur last T:=fun ahead Es Ms hs hc hl=>
 k _ Es Ms (hs.next hd fun KZ=>⟨d,_,hd,ah,fun tm' mm' hL hb a w K Q hh hK=>by
   have ym:eN L tm o tm':=hL.back KZ
   rw[if_neg (by rw[ez hg ym hh];simp)]
   obtain⟨H,Z,hm⟩:=hh
   rw[hd]
   exact hK _ _ ⟨H,Z,hm.BD (aY.mp hn) ⟨#[],rfl,rfl,fun j c hc=>by simp at hc⟩⟩⟩) hc hl
def Md(af:List Nat):Option Nat→Bool
 |none=>true
 |some e=>fw af e
theorem GOps.MF{IX:MM}(hg:bp L (bg (aK L o) tm) o=some true)(h:∀tm',LW C n o (bg (aK L o) tm++tm') cur ((d,s)::bw (bg (aK L o) tm++tm') d) IX)
 (hd:o.dst=some d)(JB:Md (fz o.after.toList) last=true)(hb:∀q∈bs,q∈IX)
 (k:GOps C n bs L cp mm (i+1) l ((d,s)::bw tm d) IX (some i) T):GOps C n bs L cp mm i (o::l) tm cur last T:=fun ahead Es Ms hs hc hl=>by
 obtain⟨h2,h3,h4,h5⟩:=gv hs.FO
 obtain⟨h6,h7⟩:=h5 d hd
 have eL:o∈L:=by rw[hs.whole];simp
 have vJ:=hs.Nt
 refine k (o::ahead) (Es++[i]) (Ms++[IX]) ⟨fun j o' hj dX K4=>?_,fun q e o' he dX=>?_,fun e he=>?_,fun q e f he hf=>?_,by simp[vJ],fun M hM q hq=>?_,?_,lW hs.keys,fun p hp hn=>?_,h4,by rw[hs.whole];simp,by simp[hs.len]⟩ ?_ (by simp)
 ·have jc:j≠i:=fun e=>K4 (by rw[e];simp)
  have eC:j < i:=by omega
  obtain⟨k1,k2⟩:=eD h6 o' (hs.before eC dX)
  exact(hs.ok j o' eC dX (fun h=>K4 (eZ _ h))).grow k1 k2
 ·rcases cn q Es.length with hq|hq
  ·rw[aG hq]at he
   obtain⟨Ma,Mb,g1,g2,g3⟩:=hs.MF q e o' he dX
   obtain⟨k1,k2⟩:=eD h6 o' (hs.before (hs.PC e (an he)) dX)
   exact⟨Ma,Mb,by rw[aG (by omega)];exact g1,by rw[aG (by omega)];exact g2,g3.grow k1 k2⟩
  ·have vg:q=Es.length:=by
    have:=(ai.1 he).1
    simp at this;omega
   subst vg
   rw[aO (aA _)]at he
   simp at he;subst he
   rw[hs.here]at dX;injection dX with dX;subst dX
   refine⟨cur,IX,by rw[aG (by omega)];exact hc,by rw[aO (by omega)];simp[vJ],d,s,hd,ah,fun tm' hL a w K Q hh hK=>?_⟩
   have ym:eN L tm o tm':=hL.back h7
   rw[if_pos (ez hg ym hh)]
   refine h tm' a w K Q (hh.lA fun p hp=>?_) fun a' w' h'=>hK _ a' w' (fun p hp uA=>?_) ah h'
   ·rcases aQ.1 hp with hp|hp
    ·exact ym p (cQ.1 hp).1 (cQ.1 hp).2
    ·exact hp
   ·exact ab _ (cd (b8 _ hp) uA)
 ·rcases aQ.1 he with he|he
  ·exact jg (hs.PC e he)
  ·simp at he;omega
 ·rcases cn (q+1) Es.length with hq|hq
  ·rw[aG (by omega)]at he
   rw[aG hq]at hf
   exact hs.chain q e f he hf
  ·have vg:q+1=Es.length:=by
    have:=(ai.1 hf).1
    simp at this;omega
   rw[aO (by omega)]at hf
   rw[aG (by omega)]at he
   have:f=i:=by simp[vg]at hf;exact hf.symm
   subst this
   refine⟨o,hs.here,?_⟩
   have hle:Es.getLast?=some e:=by rw[List.getLast?_eq_getElem?,show Es.length - 1=q by omega];exact he
   rw[←hl,hle]at JB
   exact cz.1 JB
 ·rcases aQ.1 hM with hM|hM
  ·exact hs.RM M hM q hq
  ·simp at hM;subst hM;exact hb q hq
 ·rw[aG (by omega)];exact hs.m0
 ·rcases ae.1 hp with rfl|hp
  ·exact absurd (eX eL hd) hn
  ·exact hs.base p (b4 hp).1 hn
 ·rw[aO (by simp;omega)]
  simp[vJ]
theorem yZ{S:List Oper}{o:Oper}{a:Act}(h:∀j b,o.guard=some (j,b)→j < L.length):Region.wanted o (yielded (L++S).toArray a.tmps)=Region.wanted o (yielded L.toArray a.tmps):=by
 unfold Region.wanted
 split
 ·rfl
 ·rename_i j want hg
  have hj:=h j want hg
  have:yielded (L++S).toArray a.tmps j=yielded L.toArray a.tmps j:=by
   unfold yielded
   simp[aG hj]
  rw[this]
theorem Rx{S:List Oper}{z:Oper}{Es:List Nat}{Ms:List MM}{dc:TM}{P:TM→MM→Prop}{CP:MM}(hs:GS C n bs L cp mm Es Ms L.reverse [] L.length dc)(TR:Ms[Es.length]? =some CP)(b7:kX L [] L 0=true)
 (hz:S[0]? =some z)(CB:∀k,k < L.length→k∈fz z.after.toList∨∃o∈L,k∈fz o.after.toList)
 (Qi:∀(k:Nat) (o:Oper),0 < k→S[k]? =some o→(L.length+k - 1)∈fz o.after.toList)(SX:∀(k:Nat) (o:Oper),S[k]? =some o→∀q∈fz o.after.toList,q < L.length+k)
 (JD:∀o∈L,∀j b,o.guard=some (j,b)→j < L.length)(hP:SOps C n (L++S).toArray S dc CP P):
 ∀(fuel:Nat) (listed:Array Bool) (k:Nat) (M:MM) (a:Act) (w:World) (tm:TM),listed.size=(L++S).length→(∀j,L.length≤j→listed.getD j false=false)→(listed.toList.filter (!·)).length≤fuel→(∀p,nD L listed dc p→p∈tm)→
  (∀j e,Es[j]? =some e→(listed.getD e false=true↔j < k))→k≤Es.length→(∀j o,L[j]? =some o→listed.getD j false=true→∀i∈fz o.after.toList,listed.getD i false=true)→Ms[k]? =some M→Has C n tm M a w→
  wpAny C.P .any (L++S).toArray (QT C n P) fuel listed a w:=by
 have hSl:0 < S.length:=(ai.1 hz).1
 have T2:(L++S)[L.length]? =some z:=by rw[aO (aA _)];simpa using hz
 have K8:∀k,k < L.length→(L++S)[k]? =L[k]? :=fun k hk=>aG hk
 have CG:∀(k:Nat) (o:Oper),L[k]? =some o→∀q∈fz o.after.toList,q < k:=fun k o ho q hq=>by
  obtain⟨_,h3⟩:=gU b7 k o ho
  have:=dR h3 q hq;omega
 have o4:∀p q (hp:p < Es.length) (hq:q < Es.length),p < q→Es[p] < Es[q]:=by
  intro p q hp hq jl
  induction q with
  |zero=>omega
  |succ q SI=>
   obtain⟨o',dX,Cw⟩:=hs.chain q _ _ (aa (by omega)) (aa hq)
   have bo:=CG _ o' dX _ Cw
   by_cases NX:p=q
   ·subst NX;omega
   ·have:=SI (by omega) (by omega);omega
 intro fuel
 induction fuel with
 |zero=>
  intro listed k M a w tm c8 Pl hc hk eu kl AJ Iy hh
  exfalso
  have hm:false∈listed.toList.filter (!·):=by
   rw[cI]
   have VY:L.length < listed.size:=by rw[c8,aL];omega
   have:listed[L.length]=false:=by have:=Pl L.length (aA _);simpa[Array.getD,VY]using this
   exact⟨by rw[←this];simp,rfl⟩
  have:=fB hm
  omega
 |succ fuel ih=>
  intro listed k M a w tm c8 Pl hc hk eu kl AJ Iy hh
  have hszL:listed.size=L.length+S.length:=by rw[c8,aL]
  by_cases fP:∀j,j < L.length→listed.getD j false=true
  ·
   have Tm:k=Es.length:=by
    rcases cn k Es.length with h|h
    ·have he:Es[k]? =some Es[k]:=aa h
     have:=(eu k _ he).1 (fP _ (hs.PC _ (az h)))
     omega
    ·omega
   subst Tm
   have WC:M=CP:=by rw[TR]at Iy;injection Iy with Iy;exact Iy.symm
   subst WC
   have T9:Has C n dc M a w:=hh.lA fun p hp=>hk p ⟨hp,by
    by_cases hd:p.1∈bV L
    ·obtain⟨k,o,h1,h2⟩:=eY hd
     exact .inr ⟨k,o,h1,h2,fP k (ai.1 h1).1⟩
    ·exact .inl hd⟩
   refine Ee S L.length (fuel+1) listed a w (by simp) (by simp) c8 fP Pl ?_ (fun k o hk ho=>?_) (fun k o hk ho=>?_) (hP a w T9)
   ·refine dN ?_ hc
    have h1:(listed.toList.drop L.length).filter (!·)=listed.toList.drop L.length:=by
     rw[List.filter_eq_self]
     intro x hx
     obtain⟨j,hj,rfl⟩:=aB.1 hx
     simp only[eP,ke]at hj
     rw[List.getElem_drop]
     have:=Pl (L.length+j) (by omega)
     have Od:L.length+j < listed.size:=by omega
     simp[Array.getD,Od]at this
     simpa using this
    have h2:((listed.toList.drop L.length).filter (!·)).length≤(listed.toList.filter (!·)).length:=((List.drop_sublist _ _).filter _).length_le
    rw[h1,eP,ke]at h2
    omega
   ·rw[aO (by omega)]at ho
    have:=Qi (k - L.length) o (by omega) ho
    rwa [show L.length+(k - L.length) - 1=k - 1 by omega]at this
   ·rw[aO (by omega)]at ho
    intro q hq
    have:=SX (k - L.length) o ho q hq
    omega
  ·
   have Mi:L.length∉Region.ready .any (L++S).toArray listed:=fun hi=>by
    refine fP fun j hj=>?_
    obtain⟨_,o,h2,h3⟩:=mem_ready.1 hi
    have S8:o=z:=by
     have:(L++S)[L.length]? =some o:=by simpa using h2
     rw[T2]at this;injection this with this;exact this.symm
    subst S8
    have key:∀m,∀k,k+m=L.length→0 < m→listed.getD k false=true:=by
     intro m
     induction m using Nat.strongRecOn with
     |_ m SJ=>
      intro k RY N8
      rcases CB k (by omega)with Tk|⟨o',dX,QN⟩
      ·obtain⟨e,he,hb,K5⟩:=pw Tk
       have:=h3 e (by simpa using he) hb
       rwa [K5]at this
      ·obtain⟨j,hj,QS⟩:=aB.1 dX
       have MA:L[j]? =some o':=by rw[aa hj,QS]
       have Ie:=CG j o' MA k QN
       exact AJ j o' MA (SJ (L.length - j) (by omega) j (by omega) (by omega)) k QN
    exact key (L.length - j) j (by omega) (by omega)
   refine⟨fun hr=>?_,fun i hi=>?_⟩
   ·exfalso
    refine fP fun k=>?_
    induction k using Nat.strongRecOn with
    |_ k Vo=>
     intro Fh
     cases hl:listed.getD k false with
     |true=>rfl
     |false=>
      have dL:k∈Region.ready .any (L++S).toArray listed:=by
       rw[mem_ready]
       refine⟨?_,L[k],by rw[cB,K8 k Fh,aa Fh],fun e he hb=>?_⟩
       ·have K3:k < listed.size:=by omega
        simp[Array.getD,K3]at hl⊢;exact hl
       ·have h4:=oi (l:=L[k].after.toList) (by simpa using he) hb
        have h5:=CG k L[k] (aa Fh) _ h4
        exact Vo e.on h5 (by omega)
      rw[hr]at dL;cases dL
   obtain⟨h1,o,h2,h3⟩:=mem_ready.1 hi
   have vK:i < (L++S).length:=by simpa using(bu.1 h2).1
   have ng:i < listed.size:=by omega
   have j2:listed[i]=false:=by simpa[Array.getD,ng]using h1
   have lq:listed.getD i false=false:=by simpa[Array.getD,ng]using j2
   have sQ:∀j,j∈fz o.after.toList→listed.getD j false=true:=by
    intro j hj
    obtain⟨e,he,hb,K5⟩:=pw hj
    have:=h3 e (by simpa using he) hb
    rwa [K5]at this
   have UR:i < L.length:=by
    rcases cv i L.length with h|h|h
    ·exact h
    ·exact absurd (h▸hi) Mi
    ·exfalso
     have ho:S[i - L.length]? =some o:=by
      have:(L++S)[i]? =some o:=by simpa using h2
      rwa [aO (by omega)]at this
     have:=sQ _ (Qi (i - L.length) o (by omega) ho)
     rw[show L.length+(i - L.length) - 1=i - 1 by omega,Pl (i - 1) (by omega)]at this;cases this
   have hL:L[i]? =some o:=by
    have:(L++S)[i]? =some o:=by simpa using h2
    rwa [K8 i UR]at this
   obtain⟨hw,_⟩:=gU b7 i o hL
   have dp:eN L dc o tm:=by
    intro p hp hl
    refine hk p ⟨hp,?_⟩
    by_cases hd:p.1∈bV L
    ·obtain⟨k,o',k1,k2⟩:=eY hd
     have:=jq hw k o' p.1 k1 k2 hl
     exact .inr ⟨k,o',k1,k2,sQ k (by simpa using this)⟩
    ·exact .inl hd
   have iq:((listed.setIfInBounds i true).toList.filter (!·)).length≤fuel:=by
    have h5:((listed.setIfInBounds i true).toList.filter (!·)).length+1=(listed.toList.filter (!·)).length:=by
     rw[show(listed.setIfInBounds i true).toList=listed.toList.set i true by simp]
     exact count_set (by simp[ng,j2])
    omega
   have jY:(listed.setIfInBounds i true).size=(L++S).length:=by simpa using c8
   have other:∀k,k≠i→(listed.setIfInBounds i true).getD k false=listed.getD k false:=fun k hk=>getD_set_ne false (Ne.symm hk)
   have qp:(listed.setIfInBounds i true).getD i false=true:=gZ ng
   have Qd:∀j,L.length≤j→(listed.setIfInBounds i true).getD j false=false:=fun j hj=>by rw[other j (by omega)];exact Pl j hj
   have Ir:∀j o,L[j]? =some o→(listed.setIfInBounds i true).getD j false=true→∀q∈fz o.after.toList,(listed.setIfInBounds i true).getD q false=true:=by
    intro j o' dX hj q hq
    have pO:listed.getD q false=true:=by
     by_cases jc:j=i
     ·subst jc
      rw[hL]at dX;injection dX with dX;subst dX
      exact sQ q hq
     ·rw[other j jc]at hj
      exact AJ j o' dX hj q hq
    by_cases lC:q=i
    ·rw[lC];exact qp
    ·rw[other q lC];exact pO
   have o5:∀(d:Nat) (s:ST) (tm':TM),o.dst=some d→(d,s)∈dc→(∀p∈tm,p.1≠d→p∈tm')→(d,s)∈tm'→∀p,nD L (listed.setIfInBounds i true) dc p→p∈tm':=by
    rintro d s tm' e1 e2 ht FQ p ⟨g1,g2⟩
    by_cases uA:p.1=d
    ·have:p=(d,s):=hs.keys p g1 (d,s) e2 uA
     rw[this];exact FQ
    ·refine ht p (hk p ⟨g1,?_⟩) uA
     rcases g2 with g2|⟨q,o',q1,q2,q3⟩
     ·exact .inl g2
     ·refine .inr ⟨q,o',q1,q2,?_⟩
      have lC:q≠i:=by
       intro e;subst e
       rw[hL]at q1;injection q1 with q1;subst q1
       rw[e1]at q2;injection q2 with q2;exact uA q2.symm
      rwa [other q lC]at q3
   unfold wpOp
   have qv:(L++S)[i]? =some o:=by simpa using h2
   simp only[cB,qv]
   have fin:∀{K:Prop} {W:Prop} [Decidable W] {A B:Prop},(if W then A else K)→(if W then A∨B else K):=by
    intro K W _ A B h
    split
    ·rename_i hw;rw[if_pos hw]at h;exact .inl h
    ·rename_i hw;rw[if_neg hw]at h;exact h
   refine fin ?_
   rw[yZ (S:=S) (a:=a) (JD o (an hL))]
   by_cases rN:i∈Es
   ·obtain⟨j,hj,jc⟩:=aB.1 rN
    have JF:Es[j]? =some i:=by rw[aa hj,jc]
    have Oe:j=k:=by
     have g1:¬j < k:=fun h=>by
      have:=(eu j i JF).2 h
      rw[lq]at this;cases this
     rcases cv j k with h|h|h
     ·exact absurd h g1
     ·exact h
     ·exfalso
      obtain⟨j',rfl⟩:∃j',j=j'+1:=⟨j - 1,by omega⟩
      obtain⟨o',dX,Cw⟩:=hs.chain j' _ _ (aa (by omega)) JF
      rw[hL]at dX;injection dX with dX;subst dX
      have:=(eu j' _ (aa (by omega))).1 (sQ _ Cw)
      omega
    subst Oe
    obtain⟨Ma,Mb,g1,g2,d,s,e1,e2,h⟩:=hs.MF j i o JF hL
    have WD:M=Ma:=by rw[g1]at Iy;injection Iy with Iy;exact Iy.symm
    subst WD
    refine h tm dp a w _ _ hh fun tm' a' w' ht FQ h'=>ih _ (j+1) Mb a' w' tm' jY Qd iq (o5 d s tm' e1 e2 ht FQ) (fun j' e' vL=>?_) (by omega) Ir g2 h'
    by_cases he:e'=i
    ·subst he
     have Fi:j'=j:=by
      obtain⟨AI,Tq⟩:=ai.1 vL
      rcases cv j' j with h|h|h
      ·have:=o4 _ _ AI hj h;omega
      ·exact h
      ·have:=o4 _ _ hj AI h;omega
     subst Fi
     simp[qp]
    ·rw[other _ he]
     have:=eu j' e' vL
     have cj:j'≠j:=fun e=>he (by subst e;rw[JF]at vL;injection vL with vL;exact vL.symm)
     rw[this];omega
   ·obtain⟨d,s,e1,e2,h⟩:=hs.ok i o UR hL rN
    refine h tm M dp (hs.RM M (an Iy)) a w _ _ hh fun a' w' h'=>ih _ k M a' w' _ jY Qd iq (o5 d s _ e1 e2 (fun p hp uA=>ab _ (cd hp uA)) ah) (fun j' e' vL=>?_) kl Ir Iy h'
    rw[other _ (fun q=>rN (by rw[←q];exact an vL))]
    exact eu j' e' vL
theorem DZ(m:Nat)(ids:List Nat){Lf A S:List Oper}{z:Oper}{f:FuncId}{R:Ending→World→Prop}{k:List Item}{id:Nat}{tm:TM}{mm:MM}(mE:C.P.follows .mixedOrders=true)(Fe:rb m Lf=some (A,S))(b7:kX A [] A 0=true)(hu:q5 (bV A) (gJ (bV A) tm)=true)
 (hz:rE S 0=some z)(CB:uT A (fz z.after.toList) A.length=true)(Cp:mj (fz z.after.toList) A.length=true)(Qi:JS (A.length+1) S.tail=true)(JD:oC A.length A=true)
 (h:GOps C n (eT ids mm) A (gJ (bV A) tm) mm 0 A (gJ (bV A) tm) mm none (fun dc cur=>SOps C n Lf.toArray S dc cur (fun BA Ns=>Goes C f n R k BA Ns))):Goes C f n R (.code (.region id Lf.toArray true)::k) tm mm:=by
 have T4:=wg Fe
 subst T4
 obtain⟨u1,u2⟩:=kp hu
 have mS:GS C n (eT ids mm) A (gJ (bV A) tm) mm [] [mm] [] A 0 (gJ (bV A) tm):=
  {ok:=fun j o hj=>by omega
   MF:=fun k e o he=>by simp at he
   PC:=fun e he=>by cases he
   chain:=fun k e f he=>by simp at he
   Nt:=rfl
   RM:=fun M hM q hq=>by
    rw[aH.1 hM]
    exact(dm.1 hq).1
   m0:=rfl
   keys:=u2
   base:=fun p hp _=>hp
   FO:=b7
   whole:=rfl
   len:=rfl}
 obtain⟨dc,Es,Ms,CP,hg,hs,TR⟩:=h [] [] [mm] mS J J
 intro a w TA b cs hb hk
 have hh:Has C n (gJ (bV A) tm) mm a w:=TA.lA fun _ hp=>jR hp
 have UB:S[0]? =some z:=by rw[←nx];exact hz
 have lZ:∀k,(Array.replicate (A++S).length false).getD k false=false:=fun k=>by
  by_cases hk:k < (A++S).length
  ·simp[Array.getD,aL]
  ·simp[Array.getD,aL]
 have Bq:∀(k:Nat) (o:Oper),0 < k→S[k]? =some o→S.tail[k - 1]? =some o:=fun k o hk ho=>by
  rw[List.getElem?_tail,show k - 1+1=k by omega];exact ho
 have oU:=Rx (z:=z) (P:=fun tm' mm'=>Goes C f n R k tm' mm') hs TR b7 UB (pG CB) (fun k o hk ho=>by
  have:=(rh Qi (k - 1) o (Bq k o hk ho)).1
  rwa [show A.length+1+(k - 1) - 1=A.length+k - 1 by omega]at this)
  (fun k o ho q hq=>by
    by_cases hk:k=0
    ·subst hk
     rw[UB]at ho;injection ho with ho;subst ho
     have:=dR Cp q hq;omega
    ·have:=(rh Qi (k - 1) o (Bq k o (by omega) ho)).2 q hq
     omega)
  (km JD) hg (A++S).length (Array.replicate (A++S).length false) 0 mm a {w with drawn:=w.drawn+1} (gJ (bV A) tm) (by simp) (fun j _=>lZ j)
  (by rw[show(Array.replicate (A++S).length false).toList=List.replicate (A++S).length false by simp];exact dN (eG _ _) (by simp))
  (fun p hp=>by
    obtain⟨g1,g2|⟨k,o,k1,k2,k3⟩⟩:=hp
    ·exact hs.base p g1 g2
    ·rw[lZ k]at k3;cases k3)
  (fun j e _=>by rw[lZ e];simp) (aM _) (fun j o _ hj=>by rw[lZ j]at hj;cases hj) hs.m0 hh.drawn
 have KR:=wp_region_any (id:=id) (Q:=QT C n (fun tm' mm'=>Goes C f n R k tm' mm')) (ops:=(A++S).toArray) (a:=a) (w:=w) mE (by simpa using oU)
 obtain⟨e,a',w',hq,uK⟩:=KR b k cs
 cases e with
 |normal=>
  obtain⟨tm',mm',hg,Io⟩:=hq
  obtain⟨e,xC,fr,g1,g2,g3⟩:=hg a' w' Io b cs hb hk
  exact⟨e,xC,fr,g1,Comes.of_steps uK g2,g3⟩
 |_=>exact hq.elim
inductive LS where
 |stop (i:Nat)(l:List Oper)(tm:TM)
def PA(Θ:dD)(n:Nat)(bs:MM)(L:List Oper):Nat→List Oper→TM→LS
 |i,[],tm=>.stop i [] tm
 |i,o::r,tm=>match bp L (bg (aK L o) tm) o with
   |some true=>match o.dst with
    |some d=>match vr Θ (bg (aK L o) tm) bs o.op with
     |some st=>match nk n d st tm with
      |some tm'=>PA Θ n bs L (i+1) r tm'
      |none=>.stop i (o::r) tm
     |none=>.stop i (o::r) tm
    |none=>.stop i (o::r) tm
   |some false=>match o.dst with
    |some d=>match nk n d (.gE []) tm with
     |some tm'=>PA Θ n bs L (i+1) r tm'
     |none=>.stop i (o::r) tm
    |none=>.stop i (o::r) tm
   |none=>.stop i (o::r) tm
theorem rP{Θ:dD}(bI:bz C.P Θ):∀{l:List Oper} {i:Nat} {tm:TM} {i':Nat} {l':List Oper} {tm':TM},
 PA Θ n bs L i l tm=.stop i' l' tm'→GOps C n bs L cp mm i' l' tm' cur last T→GOps C n bs L cp mm i l tm cur last T
 |[],i,tm,i',l',tm',h,k=>by
  simp only[PA,LS.stop.injEq]at h
  obtain⟨rfl,rfl,rfl⟩:=h
  exact k
 |o::r,i,tm,i',l',tm',h,k=>by
  have same:LS.stop i (o::r) tm=.stop i' l' tm'→GOps C n bs L cp mm i (o::r) tm cur last T:=by
   intro e
   injection e with e1 e2 e3
   subst e1 e2 e3
   exact k
  unfold PA at h
  split at h
  ·rename_i hg
   split at h
   ·rename_i d hd
    split at h
    ·rename_i st hv
     split at h
     ·rename_i Bz hs
      obtain⟨hn,rfl⟩:=fJ hs
      exact GOps.step hg (fun mm' hb hu=>(kB bI (pb (nz hb hu) hv) hd hn).Jt) hd (rP bI h k)
     ·exact same h
    ·exact same h
   ·exact same h
  ·rename_i hg
   split at h
   ·rename_i d hd
    split at h
    ·rename_i Bz hs
     obtain⟨hn,rfl⟩:=fJ hs
     exact GOps.skip hg hd hn (rP bI h k)
    ·exact same h
   ·exact same h
  ·exact same h
def PN(Θ:dD)(n:Nat)(bs:MM)(L:List Oper)(i:Nat)(l:List Oper)(tm:TM):Option LS:=
 match x5 tm with
 |some tm'=>some (PA Θ n bs L i l tm')
 |none=>none
theorem jO{Θ:dD}(bI:bz C.P Θ){i':Nat}{l':List Oper}{tm':TM}(h:PN Θ n bs L i l tm=some (.stop i' l' tm'))(k:GOps C n bs L cp mm i' l' tm' cur last T):GOps C n bs L cp mm i l tm cur last T:=by
 unfold PN at h
 split at h
 ·rename_i Bz h1
  rw[←oq h1]
  injection h with h
  exact rP bI h k
 ·cases h
variable {p q:Operand} {ty sI:TypeId}
theorem BO{st:ST}(h:∀mm',eO C n o (bg (aK L o) tm) mm' d st)(hg:bp L (bg (aK L o) tm) o=some true)(hd:o.dst=some d)
 (k:GOps C n bs L cp mm (i+1) l ((d,st)::bw tm d) cur last T):GOps C n bs L cp mm i (o::l) tm cur last T:=GOps.step hg (fun mm' _ _=>(h mm').Jt) hd k
theorem L5{Θ:dD}(bI:bz C.P Θ){nn:Bool}{sz:Nat}{xs:List (List CT)}{kd:IntKind}{m:Int}{e:Nat}{z dG:Nat}{ag:Bool}{zr:Option (List CT)}{ei:gD}
 (ho:o.op=.indexAddr ty p q)(ht:aZ Θ ty=some ⟨z,dG,ag,zr,.slice e⟩)(fm:aZ Θ e=some ei)(hx:aW (bg (aK L o) tm) p=some (.c (.slice nn sz xs)))(c8:Nat.beq ei.size sz=true)
 (hi:aW (bg (aK L o) tm) q=some (.c (.int kd m)))(hd:o.dst=some d)(hn:Nat.blt d n=true)(hg:bp L (bg (aK L o) tm) o=some true)
 (j:Nat)(cs:List CT)(hm:m=(j:Int))(hj:xs[j]? =some cs)(k:GOps C n bs L cp mm (i+1) l ((d,.v (.one (.hC cs)))::bw tm d) cur last T):GOps C n bs L cp mm i (o::l) tm cur last T:=
 BO (fun mm'=>xY bI ho ht fm c8 hx hi hm hj hd hn) hg hd k
theorem L6{a b:Int}(ho:o.op=.binOp .add ty p q sI)(hx:aW (bg (aK L o) tm) p=some (.c (.int .i64 a)))(hy:aW (bg (aK L o) tm) q=some (.c (.int .i64 b)))(hd:o.dst=some d)(hn:Nat.blt d n=true)(hg:bp L (bg (aK L o) tm) o=some true)
 (hr:-9223372036854775808≤a+b∧a+b≤9223372036854775807)(k:GOps C n bs L cp mm (i+1) l ((d,.v (.one (.c (.int .i64 (a+b)))))::bw tm d) cur last T):GOps C n bs L cp mm i (o::l) tm cur last T:=
 BO (fun mm'=>iS (p:=.add) ho hx hy (IntWalk.i64_in _ hr) hd hn) hg hd k
theorem L4{kd:IntKind}{a b:Int}(ho:o.op=.binOp .rem ty p q sI)(hx:aW (bg (aK L o) tm) p=some (.c (.int kd a)))(hy:aW (bg (aK L o) tm) q=some (.c (.int kd b)))(hd:o.dst=some d)(hn:Nat.blt d n=true)(hg:bp L (bg (aK L o) tm) o=some true)
 (hr:b≠0)(k:GOps C n bs L cp mm (i+1) l ((d,.v (.one (.c (.int kd (a.tmod b)))))::bw tm d) cur last T):GOps C n bs L cp mm i (o::l) tm cur last T:=
 BO (fun mm'=>iS (p:=.rem) ho hx hy ⟨hr,rfl⟩ hd hn) hg hd k
theorem GR{g:FuncId}{args args':List SV}{res:ST}(hc:dy C.P g [] args res []){xs:Array Operand}{ts:Array TypeId}
 (ho:o.op=.call {callee:=.value (.func g),args:=xs,argTypes:=ts})(cE:da (bg (aK L o) tm) xs.toList=some args')(iV:iO [] args=some args')
 (eK:gR res=true)(hd:o.dst=some d)(hn:Nat.blt d n=true)(hg:bp L (bg (aK L o) tm) o=some true)
 (k:GOps C n bs L cp mm (i+1) l ((d,res)::bw tm d) cur last T):GOps C n bs L cp mm i (o::l) tm cur last T:=
 GOps.step hg (fun mm' _ _=>tX hc [] ho cE iV J J J eK hd hn J) hd k
theorem GQ{Θ:dD}(bI:bz C.P Θ){t:TypeId}{z dG e len:Nat}{ag:Bool}{zt:Option (List CT)}{ei:gD}{zr:List CT}{parts:Array (Nat×Operand)}{r:List SC}{cts:List CT}{xs:List (List CT)}{ct:CT}
 (ho:o.op=.buildSlice t len parts)(ht:aZ Θ t=some ⟨z,dG,ag,zt,.slice e⟩)(fm:aZ Θ e=some ei)(hz:ei.zero=some zr)
 (hb:Nat.ble (len * ei.size) 16777216=true)(mS:Nat.blt 0 ei.size=true)
 (hl:mY (fun i=>some (i * ei.size,ei.size)) (bg (aK L o) tm) (qM (len * ei.size)) parts.toList=some r)(hc:hJ r=some cts)(hx:kO ei.size len cts=some xs)
 (hd:o.dst=some d)(hn:Nat.blt d n=true)(hg:bp L (bg (aK L o) tm) o=some true)(hle:sF (.slice true ei.size xs) ct)
 (k:GOps C n bs L cp mm (i+1) l ((d,.v (.one (.c ct)))::bw tm d) cur last T):GOps C n bs L cp mm i (o::l) tm cur last T:=
 GOps.step hg (fun _ _ _=>tV bI ho ht fm hz hb mS hl hc hx hle hd hn) hd k
theorem Du{g:FuncId}{pre post:List (List CT)}{args args':List SV}{res:ST}(hc:dy C.P g pre args res post)(ids:List Nat){xs:Array Operand}{ts:Array TypeId}
 (ho:o.op=.call {callee:=.value (.func g),args:=xs,argTypes:=ts})(cE:da (bg (aK L o) tm) xs.toList=some args')(iV:iO ids args=some args')(dp:ru cur ids=some pre)
 (kI:j8 ids=true)(hlen:post.length=pre.length)(eK:gR res=true)(hd:o.dst=some d)(hn:Nat.blt d n=true)(hg:bp L (bg (aK L o) tm) o=some true)
 (JB:Md (fz o.after.toList) last=true)(hb:∀q∈bs,q∈jI cur ids post)
 (k:GOps C n bs L cp mm (i+1) l ((d,res)::bw tm d) (jI cur ids post) (some i) T):GOps C n bs L cp mm i (o::l) tm cur last T:=
 GOps.MF hg (fun tm'=>x2 hc ids ho (kn cE) iV dp kI hlen eK hd hn) hd JB hb k
end
end Go.Sy
