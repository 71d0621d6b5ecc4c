/- The symbolic layer, bundle Sy3. -/
import Derived.Test.YtdjocfajcbhmgaaGreatDoorSy2
import Derived.Maps.AppendAt
set_option linter.unusedSimpArgs false
set_option linter.unusedVariables false
set_option linter.unusedSectionVars false
namespace Go.Sy
open Go.RowKit
section
variable {C:Ctx} {f:FuncId} {n:Nat} {R:Ending→World→Prop} {k:List Item} {tm tm':TM} {mm mm':MM}
theorem aV.KV{w:World}{M:Nat→Prop}{v:Value}{nn:Bool}{sz:Nat}{xs:List (List CT)}(h:aV w M v (.slice nn sz xs)):xs.length≤maxLen:=by
 cases h with
 |slice u hlen jC kL _ _ _ _=>omega
theorem il(t:Nat){nn:Bool}{sz:Nat}{xs:List (List CT)}(ht:jD tm t=some (.v (.one (.c (.slice nn sz xs)))))(g:xs.length≤9223372036854775807→Goes C f n R k tm mm):Goes C f n R k tm mm:=by
 intro a w hh
 obtain⟨H,Z,hm⟩:=hh
 have:=aV.KV (hm.tmps _ (gX ht))
 exact g (dB this (by decide)) a w ⟨H,Z,hm⟩
end
end Go.Sy
namespace Go.Sy
open Go.RowKit
theorem qE{Θ:da}{tm:TM}{mm mm':MM}{p:Op}{st:ST}(VR:∀i o,getM mm i=some o→getM mm' i=some o)(h:vE Θ tm mm p=some st):vE Θ tm mm' p=some st:=by
 have key:∀i,getM mm i=none∨getM mm' i=getM mm i:=by
  intro i
  cases hg:getM mm i with
  |none=>exact .inl rfl
  |some o=>exact .inr (VR i o hg)
 unfold vE at h⊢
 split at h<;>first|exact h|skip
 ·
  split at h
  ·rename_i ht
   try simp only[ht]
   split at h
   ·rename_i i off hx
    try simp only[hx]
    rcases key i with h0|h0
    ·simp only[h0]at h;cases h
    ·rw[h0];exact h
   ·rename_i hx;(try simp only[hx]);exact h
   ·cases h
  ·cases h
 ·
  rename_i f c7
  cases hc:rb tm c7.toList with
  |none=>simp[hc]at h
  |some ids=>
   simp only[hc]at h⊢
   split at h
   ·rename_i ha
    split
    ·exact h
    ·rename_i hf
     exfalso
     obtain⟨i,hi,h2⟩:=dC.1 hf
     have h1:=a7.1 ha i hi
     rcases key i with h0|h0
     ·simp only[h0]at h1;cases h1
     ·rw[h0]at h2;exact h2 h1
   ·cases h
 ·
  split at h
  ·rename_i ht
   try simp only[ht]
   split at h
   ·rename_i s hx
    try simp only[hx]
    split at h
    ·rename_i m hm
     have:wT mm' s=some m:=by
      unfold wT at hm⊢
      split at hm<;>first|exact hm|skip
      rename_i i
      rcases key i with h0|h0
      ·rw[h0]at hm;cases hm
      ·rw[h0];exact hm
     simp only[this];exact h
    ·cases h
   ·cases h
  ·rename_i ht;(try simp only[ht]);exact h
  ·rename_i ht
   try simp only[ht]
   split at h
   ·rename_i i hx
    try simp only[hx]
    rcases key i with h0|h0
    ·simp only[h0]at h;cases h
    ·rw[h0];exact h
   ·cases h
  ·cases h
end Go.Sy
namespace Go.Sy
open Go.RowKit
theorem uv{mm:MM}(hu:∀p∈mm,∀q∈mm,p.1=q.1→p=q){i:Nat}{o:MO}(h:(i,o)∈mm):getM mm i=some o:=by
 cases hg:getM mm i with
 |none=>exact absurd ⟨_,h,rfl⟩ (getM_none hg)
 |some o'=>
  have:=hu _ (aT hg) _ h J
  injection this with _ e;rw[e]
theorem oM{i:Nat}{o:MO}{p:Nat×MO}:∀{mm:MM},((p=(i,o)∧cU mm i)∨(p∈mm∧p.1≠i))→p∈cS mm i o
 |[],h=>by
  rcases h with⟨_,q,hq,_⟩|⟨h,_⟩
  ·cases hq
  ·cases h
 |(e,u)::r,h=>by
  unfold cS
  cases hb:Nat.beq e i with
  |true=>
   have he:e=i:=aJ hb
   subst he
   rcases h with⟨rfl,_⟩|⟨h,cV⟩
   ·exact ah
   ·rcases ae.1 h with rfl|h
    ·exact absurd J cV
    ·exact ab _ (oM (.inr ⟨h,cV⟩))
  |false=>
   have cV:e≠i:=fun e'=>by subst e';simp at hb
   rcases h with⟨rfl,q,hq,nv⟩|⟨h,hn⟩
   ·rcases ae.1 hq with rfl|hq
    ·exact absurd nv cV
    ·exact ab _ (oM (.inl ⟨rfl,q,hq,nv⟩))
   ·rcases ae.1 h with rfl|h
    ·exact ah
    ·exact ab _ (oM (.inr ⟨h,hn⟩))
structure Rec where
 a:Nat
 d:Nat
 zr:List SC
 st:Option (Nat×List SC)
 ar:Option (TypeId×Nat×List (List CT))
def Rec.now(r:Rec)(listed:Array Bool):List SC:=
 match r.st with
 |some (b,cs)=>if listed.getD b false=true then cs else r.zr
 |none=>r.zr
def Rec.fin(r:Rec):List SC:=
 match r.st with
 |some (_,cs)=>cs
 |none=>r.zr
def mM:List Rec→MM→MM
 |[],mm=>mm
 |r::l,mm=>match r.ar with
  |none=>(r.d,.box r.fin)::mM l mm
  |some _=>mM l mm
theorem rX{mm:MM}{q:Nat×MO}:∀{R:List Rec},q∈mM R mm→q∈mm∨∃r∈R,r.ar=none∧q=(r.d,.box r.fin)
 |[],h=>.inl h
 |r::R,h=>by
  unfold mM at h
  split at h
  ·rename_i gj
   rcases ae.1 h with rfl|h
   ·exact .inr ⟨r,ah,gj,rfl⟩
   ·rcases rX h with h|⟨r',h1,h2⟩
    ·exact .inl h
    ·exact .inr ⟨r',ab _ h1,h2⟩
  ·rcases rX h with h|⟨r',h1,h2⟩
   ·exact .inl h
   ·exact .inr ⟨r',ab _ h1,h2⟩
theorem AQ{mm:MM}{r:Rec}(gj:r.ar=none):∀{R:List Rec},r∈R→(r.d,MO.box r.fin)∈mM R mm
 |[],h=>by cases h
 |r'::R,h=>by
  unfold mM
  rcases ae.1 h with rfl|h
  ·rw[gj];exact ah
  ·split
   ·exact ab _ (AQ gj h)
   ·exact AQ gj h
section
variable {C:Ctx} {n:Nat} {eS:MM} {L:List Oper}
def eO(L:List Oper)(tm:TM)(o:Oper)(tm':TM):Prop:=∀p∈tm,p.1∈aI L o→p∈tm'
def QI(d' i:Nat)(tm:TM):TM:=tm.filter fun p=>decide (p.1≠d'∧i∉p.2.bw)
def QJ(i:Nat)(mm:MM):MM:=mm.filter fun q=>decide (q.1≠i)
inductive Jj(C:Ctx)(n:Nat)(eS:MM)(L:List Oper)(tm:TM)(R:List Rec)(i:Nat)(o:Oper):Prop
 |val (d:Nat) (s:ST) (hd:o.dst=some d) (eA:(d,s)∈tm)
   (hr:∀r∈R,r.a≠i∧∀b cs,r.st=some (b,cs)→b≠i)
   (h:∀tm' mm',eO L tm o tm'→(∀q∈eS,q∈mm')→∀(a:Act) (w:World) (K:Act→World→Prop) (Q:Exit→Act→World→Prop),Has C n tm' mm' a w→
     (∀a' w',Has C n ((d,s)::bo tm' d) mm' a' w'→K a' w')→
     if Region.wanted o (yielded L.toArray a.tmps)then o.wp C.P a w K Q else K (a.put o.dst undef) w)
 |new (d:Nat) (s:ST) (r:Rec) (hd:o.dst=some d) (eA:(d,s)∈tm) (iu:r∈R) (gj:r.ar=none) (hz:∀c∈r.zr,c.bw=[]) (w3:r.a=i) (Ea:r.d=d) (wZ:∀b cs,r.st=some (b,cs)→b≠i)
   (hr:∀r'∈R,r'=r∨(r'.a≠i∧∀b cs,r'.st=some (b,cs)→b≠i))
   (h:∀tm' mm',eO L tm o tm'→(∀q∈mm',q.1≠d)→∀(a:Act) (w:World) (K:Act→World→Prop) (Q:Exit→Act→World→Prop),Has C n tm' mm' a w→
     (∀a' w',Has C n ((d,s)::bo tm' d) ((d,.box r.zr)::mm') a' w'→K a' w')→
     if Region.wanted o (yielded L.toArray a.tmps)then o.wp C.P a w K Q else K (a.put o.dst undef) w)
 |set (r:Rec) (cs:List SC) (hd:o.dst=none) (iu:r∈R) (gj:r.ar=none) (cZ:r.st=some (i,cs)) (w3:r.a∈fi o.after.toList∨L.length≤r.a)
   (hr:∀r'∈R,r'=r∨(r'.a≠i∧∀b cs,r'.st=some (b,cs)→b≠i)) (OT:r.a≠i)
   (h:∀tm' mm',eO L tm o tm'→(r.d,.box r.zr)∈mm'→∀(a:Act) (w:World) (K:Act→World→Prop) (Q:Exit→Act→World→Prop),Has C n tm' mm' a w→
     (∀a' w',Has C n tm' (cS mm' r.d (.box cs)) a' w'→K a' w')→
     if Region.wanted o (yielded L.toArray a.tmps)then o.wp C.P a w K Q else K (a.put o.dst undef) w)
 |mk (d:Nat) (r:Rec) (e:TypeId) (sz:Nat) (ys:List (List CT)) (hd:o.dst=some d) (eA:(d,.v (.one .any))∈tm) (iu:r∈R) (gj:r.ar=some (e,sz,ys)) (w3:r.a=i) (Ea:r.d=d) (wZ:∀b cs,r.st=some (b,cs)→b≠i)
   (hr:∀r'∈R,r'=r∨(r'.a≠i∧∀b cs,r'.st=some (b,cs)→b≠i))
   (h:∀tm' mm',eO L tm o tm'→(∀q∈mm',q.1≠d)→∀(a:Act) (w:World) (K:Act→World→Prop) (Q:Exit→Act→World→Prop),Has C n tm' mm' a w→
     (∀a' w',Has C n ((d,.v (.one (.own d)))::bo tm' d) ((d,.arr false e sz ys)::mm') a' w'→K a' w')→
     if Region.wanted o (yielded L.toArray a.tmps)then o.wp C.P a w K Q else K (a.put o.dst undef) w)
 |take (d:Nat) (s:ST) (r:Rec) (e:TypeId) (sz:Nat) (ys:List (List CT)) (hd:o.dst=some d) (eA:(d,s)∈tm) (iu:r∈R) (gj:r.ar=some (e,sz,ys)) (cZ:r.st=some (i,[])) (w3:r.a∈fi o.after.toList)
   (hr:∀r'∈R,r'=r∨(r'.a≠i∧∀b cs,r'.st=some (b,cs)→b≠i)) (OT:r.a≠i)
   (h:∀tm' mm',eO L tm o tm'→(r.d,.v (.one (.own r.d)))∈tm'→(r.d,.arr false e sz ys)∈mm'→(∀q∈mm',r.d∉q.2.bw)→∀(a:Act) (w:World) (K:Act→World→Prop) (Q:Exit→Act→World→Prop),Has C n tm' mm' a w→
     (∀a' w',Has C n ((d,s)::QI d r.d tm') (QJ r.d mm') a' w'→K a' w')→
     if Region.wanted o (yielded L.toArray a.tmps)then o.wp C.P a w K Q else K (a.put o.dst undef) w)
def tt(L:List Oper)(d:Nat):List Oper→Bool
 |[]=>true
 |o::r=>match eV (aI L o) d with
  |true=>false
  |false=>match o.dst with
   |none=>tt L d r
   |some e=>match Nat.beq e d with
    |true=>false
    |false=>tt L d r
def kV(L:List Oper):List Oper→List Oper→Nat→Bool
 |_,[],_=>true
 |ahead,o::r,i=>match n0 (aI L o) (fi o.after.toList) L 0,nq (fi o.after.toList) i with
  |true,true=>match o.dst with
   |none=>kV L (o::ahead) r (i+1)
   |some d=>match tt L d ahead,eV (aI L o) d with
    |true,false=>kV L (o::ahead) r (i+1)
    |_,_=>false
  |_,_=>false
theorem eZ{d:Nat}:∀{l:List Oper},tt L d l=true→∀o∈l,o.dst≠some d∧d∉aI L o
 |[],_,o,ho=>by cases ho
 |a::l,h,o,ho=>by
  unfold tt at h
  split at h
  ·cases h
  ·rename_i hm
   have hl:d∉aI L a:=fun hk=>by rw[cD.2 hk]at hm;cases hm
   split at h
   ·rename_i he
    rcases ae.1 ho with rfl|ho
    ·exact⟨fun e=>(by rw[he]at e;cases e),hl⟩
    ·exact eZ h o ho
   ·rename_i e he
    split at h
    ·cases h
    ·rename_i hb
     rcases ae.1 ho with rfl|ho
     ·exact⟨fun e'=>(by rw[he]at e';injection e' with e';subst e';simp at hb),hl⟩
     ·exact eZ h o ho
theorem hU{ahead l:List Oper}{o:Oper}{i:Nat}(h:kV L ahead (o::l) i=true):
 n0 (aI L o) (fi o.after.toList) L 0=true∧nq (fi o.after.toList) i=true∧kV L (o::ahead) l (i+1)=true∧
 ∀d,o.dst=some d→tt L d ahead=true∧d∉aI L o:=by
 unfold kV at h
 split at h
 ·rename_i h1 h2
  split at h
  ·rename_i hd;exact⟨h1,h2,h,fun d e=>(by rw[hd]at e;cases e)⟩
  ·rename_i d hd
   split at h
   ·rename_i h3 h4
    refine⟨h1,h2,h,fun d' e=>?_⟩
    rw[hd]at e;injection e with e;subst e
    exact⟨h3,fun hk=>(by rw[cD.2 hk]at h4;cases h4)⟩
   ·cases h
 ·cases h
theorem fv:∀{l ahead:List Oper} {i:Nat},kV L ahead l i=true→∀(k:Nat) (o:Oper),l[k]? =some o→
 n0 (aI L o) (fi o.after.toList) L 0=true∧nq (fi o.after.toList) (i+k)=true
 |[],_,_,_,k,o,ho=>by simp at ho
 |a::l,ahead,i,h,k,o,ho=>by
  obtain⟨h4,h5,h6,_⟩:=hU h
  cases k with
  |zero=>simp at ho;subst ho;exact⟨h4,h5⟩
  |succ k=>
   have:=fv h6 k o (by simpa using ho)
   rwa [show i+1+k=i+(k+1) by omega]at this
structure MQ(L:List Oper)(eS:MM)(R:List Rec)(listed:Array Bool)(tm:TM)(mm:MM):Prop where
 base:∀q∈eS,q∈mm
 ED:∀r∈R,r.ar=none→listed.getD r.a true=true→(r.d,MO.box (r.now listed))∈mm
 PF:∀r∈R,∀e sz ys,r.ar=some (e,sz,ys)→listed.getD r.a true=true→(∀b cs,r.st=some (b,cs)→listed.getD b false=false)→(r.d,MO.arr false e sz ys)∈mm∧(r.d,ST.v (.one (.own r.d)))∈tm
 order:∀r∈R,∀b cs,r.st=some (b,cs)→listed.getD b false=true→listed.getD r.a true=true
 only:∀q∈mm,((∃q'∈eS,q'.1=q.1)∨q.1∉bP L)∨∃r∈R,r.d=q.1∧listed.getD r.a true=true
 Tl:∀r∈R,r.ar≠none→∀q∈mm,r.d∉q.2.bw
theorem gE{listed:Array Bool}{i:Nat}(h:i < listed.size):(listed.setIfInBounds i true).getD i false=true:=by
 simp[Array.getD,h]
theorem eE{listed:Array Bool}{i:Nat}(h:i < listed.size):(listed.setIfInBounds i true).getD i true=true:=by
 simp[Array.getD,h]
theorem pV{listed:Array Bool}{i:Nat}(h:i < listed.size):listed.getD i true=listed.getD i false:=by
 simp[Array.getD,h]
theorem o2{tm:TM}{mm:MM}{a:Act}{w:World}(h:Has C n tm mm a w):∀p∈mm,∀q∈mm,p.1=q.1→p=q:=by
 obtain⟨H,Z,hm⟩:=h
 exact hm.ids
theorem Has.less{tm tm':TM}{mm mm':MM}{a:Act}{w:World}(h:Has C n tm mm a w)(ht:∀p∈tm',p∈tm)(hm:∀q∈mm',q∈mm)(b6:Kt mm' tm'=true)(Fo:yj mm' mm'=true):Has C n tm' mm' a w:=by
 obtain⟨H,Z,dh⟩:=h
 have hM:∀b,b < w.heap.size→cO C H mm' b→cO C H mm b:=by
  rintro b _ (hb|⟨p,hp,c9⟩)
  ·exact .inl hb
  ·exact .inr ⟨_,hm p hp,c9⟩
 refine⟨H,Z,dh.defers,dh.size,dh.Oa,fun p hp=>dh.hg p (hm p hp),dh.ext,dh.m0,fun p hp q hq=>dh.ids p (hm p hp) q (hm q hq),?_,fun p hp=>dh.fresh p (hm p hp),fun p hp q hq=>dh.sep p (hm p hp) q (hm q hq),?_⟩
 ·intro p hp
  exact(dh.mem _ (hm p hp)).mono ⟨rfl,rfl⟩ (fun _ _=>rfl) (fun j hj _=>⟨jx Fo p hp j hj,rfl,rfl⟩) (ay _) (fun _ _ _=>rfl) hM
 ·intro p hp
  exact(dh.tmps _ (ht p hp)).mono (fun j hj _=>⟨rV b6 p hp j hj,rfl,rfl⟩) (ay _) (fun _ _ _=>rfl) hM
theorem qM{I:Nat→Prop}{H:Nat→Value}{Z:Nat→Nat}{w:World}{M:Nat→Prop}{v:Value}{x:SC}(h:bS I H Z w M v x):∀j∈x.bw,I j:=by
 intro j hj
 cases x with
 |c x=>simp[SC.bw]at hj
 |lit b=>simp[SC.bw]at hj
 |ptr i off=>simp[SC.bw]at hj;subst hj;exact h.1
 |iH i k off=>simp[SC.bw]at hj;subst hj;exact h.1
 |iw cs=>simp[SC.bw]at hj
 |own i=>simp[SC.bw]at hj;subst hj;exact h.1
 |mp i=>simp[SC.bw]at hj;subst hj;exact h.1
 |u5 i n=>simp[SC.bw]at hj;subst hj;exact h.1
 |kD f c7=>exact h.1 j hj
 |any=>simp[SC.bw]at hj
theorem Has.Gy{tm:TM}{mm:MM}{a:Act}{w:World}(h:Has C n tm mm a w):∀q∈mm,∀j∈q.2.bw,cU mm j:=by
 obtain⟨H,Z,hm⟩:=h
 intro q hq j hj
 have dX:=hm.mem q hq
 obtain⟨i,o⟩:=q
 cases o with
 |box cs=>
  obtain⟨b,ty,vs,h1,h2,h3,h4⟩:=dX
  simp only[MO.bw,bu]at hj
  obtain⟨c,hc,hj⟩:=hj
  obtain⟨k,hk,rfl⟩:=aC.1 hc
  obtain⟨u,_,_,hr⟩:=h4 k _ (aa hk)
  exact qM hr j hj
 |arr nn e sz xs=>simp[MO.bw]at hj
 |fw es=>simp[MO.bw]at hj
 |bF e sz qs=>simp[MO.bw]at hj
theorem PK{cN:TM}{R:List Rec}(b6:kV L [] L 0=true)(hF:∀(i:Nat) (o:Oper),L[i]? =some o→Jj C n eS L cN R i o)
 (AW:∀p∈cN,∀q∈cN,p.1=q.1→p=q)(Jf:∀r∈R,∀r'∈R,r.d=r'.d→r=r')(UU:∀r∈R,∀q∈eS,q.1≠r.d)(Z0:∀r∈R,∀b cs,r.st=some (b,cs)→b < L.length)
 (Z1:∀r∈R,r.ar≠none→r.a < L.length)(ZZ:∀r∈R,r.ar≠none→∀k o,L[k]? =some o→o.dst=some r.d→k=r.a)
 (Uv:Kt (mM R eS) cN=true)(Uw:yj (mM R eS) (mM R eS)=true){P:TM→MM→Prop}(hP:P cN (mM R eS)):
 ∀(fuel:Nat) (listed:Array Bool) (a:Act) (w:World) (tm:TM) (mm:MM),listed.size=L.length→(listed.toList.filter (!·)).length≤fuel→(∀p,mQ L listed cN p→p∈tm)→MQ L eS R listed tm mm→Has C n tm mm a w→
  wpAny C.P .any L.toArray (QT C n P) fuel listed a w:=by
 have Fv:∀r∈R,r.ar≠none→¬cU (mM R eS) r.d:=by
  rintro r hr gj ⟨q,hq,he⟩
  rcases rX hq with hq|⟨r',h1,h2,rfl⟩
  ·exact UU r hr q hq he
  ·have:=Jf r' h1 r hr he
   subst this
   exact gj h2
 have hAu:∀p∈cN,∀r∈R,r.ar≠none→r.d∉p.2.bw:=fun p hp r hr gj hu=>Fv r hr gj (rV Uv p hp _ hu)
 have Z3:∀r∈R,r.ar=none→∀r'∈R,r'.ar≠none→r'.d∉(MO.box r.fin).bw:=fun r hr gj r' gL gd hu=>Fv r' gL gd (jx Uw _ (AQ gj hr) _ hu)
 have kJ:∀(listed:Array Bool),listed.size=L.length→Region.ready .any L.toArray listed=[]→∀k,k < L.length→listed.getD k false=true:=by
  intro listed cM hr k
  induction k using Nat.strongRecOn with
  |_ k ih=>
   intro hk
   cases hl:listed.getD k false with
   |true=>rfl
   |false=>
    have dX:k∈Region.ready .any L.toArray listed:=by
     rw[mem_ready]
     refine⟨?_,L[k],by simp[hk],fun e he hb=>?_⟩
     ·have Lx:k < listed.size:=by omega
      simp[Array.getD,Lx]at hl⊢;exact hl
     ·obtain⟨_,h3⟩:=fv b6 k L[k] (aa hk)
      have:e.on∈fi L[k].after.toList:=by
       have key:∀l:List Edge,e∈l→e.on∈fi l:=by
        intro l
        induction l with
        |nil=>intro h;cases h
        |cons x l ih=>
         intro h
         unfold fi
         rcases ae.1 h with rfl|h
         ·rw[hb];exact ah
         ·split
          ·exact ab _ (ih h)
          ·exact ih h
       exact key _ (by simpa using he)
      have bj:=dz h3 _ this
      exact ih e.on (by omega) (by omega)
    rw[hr]at dX;cases dX
 have oZ:∀(listed:Array Bool) (a:Act) (w:World) (tm:TM) (mm:MM),listed.size=L.length→(∀p,mQ L listed cN p→p∈tm)→MQ L eS R listed tm mm→Has C n tm mm a w→Region.ready .any L.toArray listed=[]→QT C n P .normal a w:=by
  intro listed a w tm mm cM hk ho hh hr
  refine⟨cN,mM R eS,hP,hh.less (fun p hp=>hk p ⟨hp,?_⟩) (fun q hq=>?_) Uv Uw⟩
  ·by_cases hd:p.1∈bP L
   ·obtain⟨k,o,h1,h2⟩:=eI hd
    exact .inr ⟨k,o,h1,h2,kJ listed cM hr k (ai.1 h1).1⟩
   ·exact .inl hd
  ·rcases rX hq with hq|⟨r,h1,gj,rfl⟩
   ·exact ho.base q hq
   ·have h2:=ho.ED r h1 gj (by
     by_cases w3:r.a < L.length
     ·rw[pV (by omega)];exact kJ listed cM hr r.a w3
     ·simp[Array.getD,show ¬r.a < listed.size by omega])
    have:r.now listed=r.fin:=by
     unfold Rec.now Rec.fin
     split
     ·rename_i b cs hb
      rw[if_pos (kJ listed cM hr b (Z0 r h1 b cs hb))]
     ·rfl
    rwa [this]at h2
 intro fuel
 induction fuel with
 |zero=>
  intro listed a w tm mm cM hc hk ho hh
  have hr:Region.ready .any L.toArray listed=[]:=by
   rw[cG]
   intro j hj
   obtain⟨h1,o,h2,_⟩:=mem_ready.1 hj
   have fg:j < listed.size:=by rw[cM];simpa using(bd.1 h2).1
   have:listed[j]=false:=by simpa[Array.getD,fg]using h1
   have hm:false∈listed.toList.filter (!·):=by
    rw[cn];exact⟨by rw[←this];simp,rfl⟩
   have:=dU hm
   omega
  exact⟨hr,oZ listed a w tm mm cM hk ho hh hr⟩
 |succ fuel ih=>
  intro listed a w tm mm cM hc hk ho hh
  refine⟨oZ listed a w tm mm cM hk ho hh,fun i hi=>?_⟩
  obtain⟨h1,o,h2,h3⟩:=mem_ready.1 hi
  have hL:L[i]? =some o:=by simpa using h2
  have sb:i < L.length:=(ai.1 hL).1
  have mT:i < listed.size:=by omega
  have iO:listed[i]=false:=by simpa[Array.getD,mT]using h1
  have ia:listed.getD i false=false:=by simpa[Array.getD,mT]using iO
  have Ba:listed.getD i true=false:=by rw[pV mT];exact ia
  obtain⟨hw,_⟩:=fv b6 i o hL
  have qt:∀j,j∈fi o.after.toList→listed.getD j false=true:=by
   have key:∀l:List Edge,(∀e∈l,e∈o.after)→∀j,j∈fi l→listed.getD j false=true:=by
    intro l
    induction l with
    |nil=>intro _ j h;simp[fi]at h
    |cons x l ih=>
     intro hl j h
     unfold fi at h
     split at h
     ·rename_i hb
      rcases ae.1 h with rfl|h
      ·exact h3 x (hl x ah) hb
      ·exact ih (fun e he=>hl e (ab _ he)) j h
     ·exact ih (fun e he=>hl e (ab _ he)) j h
   exact key _ (fun e he=>by simpa using he)
  have dn:eO L cN o tm:=by
   intro p hp hl
   refine hk p ⟨hp,?_⟩
   by_cases hd:p.1∈bP L
   ·obtain⟨k,o',k1,k2⟩:=eI hd
    have:=iK hw k o' p.1 k1 k2 hl
    exact .inr ⟨k,o',k1,k2,qt k (by simpa using this)⟩
   ·exact .inl hd
  have gp:((listed.setIfInBounds i true).toList.filter (!·)).length≤fuel:=by
   have h5:((listed.setIfInBounds i true).toList.filter (!·)).length+1=(listed.toList.filter (!·)).length:=by
    rw[show(listed.setIfInBounds i true).toList=listed.toList.set i true by simp]
    exact count_set (by simp[mT,iO])
   omega
  have j6:(listed.setIfInBounds i true).size=L.length:=by simpa using cM
  have other:∀k,k≠i→(listed.setIfInBounds i true).getD k false=listed.getD k false:=fun k hk=>getD_set_ne false (Ne.symm hk)
  have fW:∀k,k≠i→(listed.setIfInBounds i true).getD k true=listed.getD k true:=fun k hk=>getD_set_ne true (Ne.symm hk)
  have R8:∀r∈R,r.ar≠none→r.a≠i→∀d,o.dst=some d→r.d≠d:=fun r hr gj OT d hd e=>OT (ZZ r hr gj i o hL (by rw[hd,e])).symm
  have A7:∀d s,o.dst=some d→(d,s)∈cN→∀p,mQ L (listed.setIfInBounds i true) cN p→p∈(d,s)::bo tm d:=by
   intro d s e1 e2 p hp
   obtain⟨g1,g2⟩:=hp
   by_cases tk:p.1=d
   ·have:p=(d,s):=AW p g1 (d,s) e2 tk
    rw[this];exact ah
   ·refine ab _ (b9 (hk p ⟨g1,?_⟩) tk)
    rcases g2 with g2|⟨k,o',k1,k2,k3⟩
    ·exact .inl g2
    ·refine .inr ⟨k,o',k1,k2,?_⟩
     have sB:i≠k:=by
      intro e;subst e
      rw[hL]at k1;injection k1 with k1;subst k1
      rw[e1]at k2;injection k2 with k2;exact tk k2.symm
     rwa [getD_set_ne false sB]at k3
  have w4:∀r:Rec,(∀b cs,r.st=some (b,cs)→b≠i)→r.now (listed.setIfInBounds i true)=r.now listed:=by
   intro r hr
   unfold Rec.now
   split
   ·rename_i b cs hb;rw[other b (hr b cs hb)]
   ·rfl
  unfold wpOp
  simp only[b8,hL]
  have fin:∀{K:Prop} {W:Prop} [Decidable W] {A B:Prop},(if W then A else K)→(if W then A∨B else K):=by
   intro K W _ A B h
   split
   ·rename_i hw;rw[if_pos hw]at h;exact .inl h
   ·rename_i hw;rw[if_neg hw]at h;exact h
  refine fin ?_
  have LH:∀(tm':TM) (mm':MM),(∀r∈R,r.ar≠none→(r.a≠i∧∀b cs,r.st=some (b,cs)→b≠i))→(∀r∈R,r.ar≠none→∀q,q∈mm→q.1=r.d→q∈mm')→
   (∀r∈R,r.ar≠none→r.a≠i→(r.d,ST.v (.one (.own r.d)))∈tm→(r.d,ST.v (.one (.own r.d)))∈tm')→
   ∀r∈R,∀e sz ys,r.ar=some (e,sz,ys)→(listed.setIfInBounds i true).getD r.a true=true→(∀b cs,r.st=some (b,cs)→(listed.setIfInBounds i true).getD b false=false)→(r.d,MO.arr false e sz ys)∈mm'∧(r.d,ST.v (.one (.own r.d)))∈tm':=by
   intro tm' mm' h1 h2 h3 r hr e sz ys gj hl hb
   have cV:r.ar≠none:=by rw[gj];exact fun h=>by cases h
   obtain⟨g1,g2⟩:=h1 r hr cV
   rw[fW _ g1]at hl
   obtain⟨k1,k2⟩:=ho.PF r hr e sz ys gj hl (fun b cs cZ=>by rw[←other _ (g2 b cs cZ)];exact hb b cs cZ)
   exact⟨h2 r hr cV _ k1 J,h3 r hr cV g1 k2⟩
  have kK:∀d s,o.dst=some d→∀r∈R,r.ar≠none→r.a≠i→(r.d,ST.v (.one (.own r.d)))∈tm→(r.d,ST.v (.one (.own r.d)))∈(d,s)::bo tm d:=fun d s hd r hr gj OT h=>
   ab _ (b9 h (R8 r hr gj OT d hd))
  cases hF i o hL with
  |val d s e1 e2 hr h=>
   refine h tm mm dn ho.base a w _ (QT C n P) hh (fun a' w' h'=>ih _ a' w' _ mm j6 gp (A7 d s e1 e2) ⟨ho.base,fun r iu gj hl=>?_,LH _ _ (fun r gL _=>hr r gL) (fun r _ _ q hq _=>hq) (kK d s e1),fun r iu b cs cZ hl=>?_,fun q hq=>?_,ho.Tl⟩ h')
   ·obtain⟨r1,r2⟩:=hr r iu
    rw[fW _ r1]at hl
    rw[w4 r r2]
    exact ho.ED r iu gj hl
   ·rw[other _ ((hr r iu).2 b cs cZ)]at hl
    rw[fW _ (hr r iu).1]
    exact ho.order r iu b cs cZ hl
   ·rcases ho.only q hq with h|⟨r,g1,g2,g3⟩
    ·exact .inl h
    ·exact .inr ⟨r,g1,g2,by rw[fW _ (hr r g1).1];exact g3⟩
  |new d s r e1 e2 iu gj hz w3 Ea wZ hr h=>
   have gb:∀q∈mm,q.1≠d:=by
    intro q hq e
    rcases ho.only q hq with(⟨q',g1,g2⟩|g0)|⟨r',g1,g2,g3⟩
    ·exact UU r iu q' g1 (by rw[g2,e,Ea])
    ·exact g0 (by rw[e];exact eH (aj hL) e1)
    ·have:r'=r:=Jf r' g1 r iu (by rw[g2,e,Ea])
     subst this
     rw[w3,Ba]at g3;cases g3
   refine h tm mm dn gb a w _ (QT C n P) hh (fun a' w' h'=>ih _ a' w' _ _ j6 gp (A7 d s e1 e2) ⟨fun q hq=>ab _ (ho.base q hq),fun r' dG gd hl=>?_,LH _ _ (fun r' gL gd=>?_) (fun r _ _ q hq _=>ab _ hq) (kK d s e1),fun r' dG b cs cZ hl=>?_,fun q hq=>?_,fun r' dG gd q hq=>?_⟩ h')
   ·rcases hr r' dG with rfl|⟨g1,g2⟩
    ·rw[w4 _ wZ]
     have:r'.now listed=r'.zr:=by
      unfold Rec.now
      split
      ·rename_i b cs hb
       have Fz:listed.getD b false=false:=by
        cases hv:listed.getD b false with
        |false=>rfl
        |true=>
         have:=ho.order r' iu b cs hb hv
         rw[w3,Ba]at this;cases this
       rw[Fz];simp
      ·rfl
     rw[this,Ea]
     exact ah
    ·rw[fW _ g1]at hl
     rw[w4 r' g2]
     exact ab _ (ho.ED r' dG gd hl)
   ·rcases hr r' gL with rfl|g
    ·exact absurd gj gd
    ·exact g
   ·rcases hr r' dG with rfl|⟨g1,g2⟩
    ·rw[w3];exact eE mT
    ·rw[other _ (g2 b cs cZ)]at hl
     rw[fW _ g1]
     exact ho.order r' dG b cs cZ hl
   ·rcases ae.1 hq with rfl|hq
    ·exact .inr ⟨r,iu,Ea,by rw[w3];exact eE mT⟩
    ·rcases ho.only q hq with h|⟨r',g1,g2,g3⟩
     ·exact .inl h
     ·refine .inr ⟨r',g1,g2,?_⟩
      by_cases sB:r'.a=i
      ·rw[sB];exact eE mT
      ·rw[fW _ sB];exact g3
   ·rcases ae.1 hq with rfl|hq
    ·simp only[MO.bw,bu,not_exists,not_and]
     intro c hc
     rw[hz c hc];simp
    ·exact ho.Tl r' dG gd q hq
  |set r cs e1 iu gj cZ w3 hr OT h=>
   have Fu:listed.getD r.a true=true:=by
    rcases w3 with w3|w3
    ·have h1:=qt _ w3
     by_cases bj:r.a < listed.size
     ·rw[pV bj];exact h1
     ·simp[Array.getD,bj]
    ·simp[Array.getD,show ¬r.a < listed.size by omega]
   have eA:=ho.ED r iu gj Fu
   have YT:r.now listed=r.zr:=by
    unfold Rec.now
    rw[cZ]
    simp[ia]
   rw[YT]at eA
   have Wt:∀q∈mm,q.1≠r.d→q∈cS mm r.d (.box cs):=fun q hq cV=>(oM (.inr ⟨hq,cV⟩))
   refine h tm mm dn eA a w _ (QT C n P) hh (fun a' w' h'=>ih _ a' w' tm _ j6 gp (fun p hp=>hk p ⟨hp.1,?_⟩) ⟨fun q hq=>Wt q (ho.base q hq) (UU r iu q hq),fun r' dG gd hl=>?_,LH _ _ (fun r' gL gd=>?_) (fun r' gL gd q hq e=>Wt q hq (fun e'=>?_)) (fun _ _ _ _ h=>h),fun r' dG b uz Lb hl=>?_,fun q hq=>?_,fun r' dG gd q hq=>?_⟩ h')
   ·rcases hp.2 with g2|⟨k,o',k1,k2,k3⟩
    ·exact .inl g2
    ·have sB:k≠i:=by
      intro e;subst e
      rw[hL]at k1;injection k1 with k1;subst k1
      rw[e1]at k2;cases k2
     exact .inr ⟨k,o',k1,k2,by rwa [other k sB]at k3⟩
   ·rcases hr r' dG with rfl|⟨g1,g2⟩
    ·have:r'.now (listed.setIfInBounds i true)=cs:=by
      unfold Rec.now
      rw[cZ]
      simp only[gE mT,if_true]
     rw[this]
     exact oM (.inl ⟨rfl,_,eA,rfl⟩)
    ·rw[fW _ g1]at hl
     rw[w4 r' g2]
     refine Wt _ (ho.ED r' dG gd hl) (fun e=>?_)
     have:=Jf r' dG r iu e
     subst this
     exact(g2 i cs cZ) J
   ·rcases hr r' gL with rfl|g
    ·exact absurd gj gd
    ·exact g
   ·have:=Jf r' gL r iu (by rw[←e,e'])
    subst this
    exact gd gj
   ·rcases hr r' dG with rfl|⟨g1,g2⟩
    ·rw[fW _ OT];exact Fu
    ·rw[other _ (g2 b uz Lb)]at hl
     rw[fW _ g1]
     exact ho.order r' dG b uz Lb hl
   ·have rm:∃q'∈mm,q'.1=q.1:=by
     rcases cW q hq with⟨rfl,q',dv,he⟩|⟨hq,_⟩
     ·exact⟨q',dv,he⟩
     ·exact⟨q,hq,rfl⟩
    obtain⟨q',Qh,WG⟩:=rm
    rw[←WG]
    rcases ho.only q' Qh with h|⟨r',g1,g2,g3⟩
    ·exact .inl h
    ·refine .inr ⟨r',g1,g2,?_⟩
     by_cases sB:r'.a=i
     ·rw[sB];exact eE mT
     ·rw[fW _ sB];exact g3
   ·rcases cW q hq with⟨rfl,_⟩|⟨hq,_⟩
    ·have:=Z3 r iu gj r' dG gd
     unfold Rec.fin at this
     rw[cZ]at this
     exact this
    ·exact ho.Tl r' dG gd q hq
  |mk d r e sz ys e1 e2 iu gj w3 Ea wZ hr h=>
   have gb:∀q∈mm,q.1≠d:=by
    intro q hq e
    rcases ho.only q hq with(⟨q',g1,g2⟩|g0)|⟨r',g1,g2,g3⟩
    ·exact UU r iu q' g1 (by rw[g2,e,Ea])
    ·exact g0 (by rw[e];exact eH (aj hL) e1)
    ·have:r'=r:=Jf r' g1 r iu (by rw[g2,e,Ea])
     subst this
     rw[w3,Ba]at g3;cases g3
   have cV:r.ar≠none:=by rw[gj];exact fun h=>by cases h
   refine h tm mm dn gb a w _ (QT C n P) hh (fun a' w' h'=>?_)
   have h'':Has C n ((d,.v (.one .any))::(d,.v (.one (.own d)))::bo tm d) ((d,.arr false e sz ys)::mm) a' w':=by
    obtain⟨H,Z,hm⟩:=h'
    refine⟨H,Z,{hm with tmps:=fun p hp=>?_}⟩
    rcases ae.1 hp with rfl|hp
    ·trivial
    ·exact hm.tmps p hp
   refine ih _ a' w' _ _ j6 gp (fun p hp=>?_) ⟨fun q hq=>ab _ (ho.base q hq),fun r' dG gd hl=>?_,fun r' dG e' Nf V7 gd hl hb=>?_,fun r' dG b cs cZ hl=>?_,fun q hq=>?_,fun r' dG gd q hq=>?_⟩ h''
   ·rcases ae.1 (A7 d _ e1 e2 p hp)with rfl|sa
    ·exact ah
    ·exact ab _ (ab _ sa)
   ·rcases hr r' dG with rfl|⟨g1,g2⟩
    ·exact absurd gd cV
    ·rw[fW _ g1]at hl
     rw[w4 r' g2]
     exact ab _ (ho.ED r' dG gd hl)
   ·rcases hr r' dG with rfl|⟨g1,g2⟩
    ·rw[gj]at gd
     injection gd with gd
     injection gd with q1 q2
     injection q2 with q2 q3
     subst q1 q2 q3
     rw[Ea]
     exact⟨ah,ab _ ah⟩
    ·rw[fW _ g1]at hl
     have Dd:r'.ar≠none:=by rw[gd];exact fun h=>by cases h
     obtain⟨k1,k2⟩:=ho.PF r' dG e' Nf V7 gd hl (fun b cs cZ=>by rw[←other _ (g2 b cs cZ)];exact hb b cs cZ)
     exact⟨ab _ k1,ab _ (ab _ (b9 k2 (R8 r' dG Dd g1 d e1)))⟩
   ·rcases hr r' dG with rfl|⟨g1,g2⟩
    ·rw[w3];exact eE mT
    ·rw[other _ (g2 b cs cZ)]at hl
     rw[fW _ g1]
     exact ho.order r' dG b cs cZ hl
   ·rcases ae.1 hq with rfl|hq
    ·exact .inr ⟨r,iu,Ea,by rw[w3];exact eE mT⟩
    ·rcases ho.only q hq with h|⟨r',g1,g2,g3⟩
     ·exact .inl h
     ·refine .inr ⟨r',g1,g2,?_⟩
      by_cases sB:r'.a=i
      ·rw[sB];exact eE mT
      ·rw[fW _ sB];exact g3
   ·rcases ae.1 hq with rfl|hq
    ·simp[MO.bw]
    ·exact ho.Tl r' dG gd q hq
  |take d s r e sz ys e1 e2 iu gj cZ w3 hr OT h=>
   have cV:r.ar≠none:=by rw[gj];exact fun h=>by cases h
   have Fu:listed.getD r.a true=true:=by
    rw[pV (by rw[cM];exact Z1 r iu cV)]
    exact qt _ w3
   obtain⟨W5,W4⟩:=ho.PF r iu e sz ys gj Fu (fun b cs hb=>by
    rw[cZ]at hb;injection hb with hb;injection hb with hb;rw[←hb];exact ia)
   have Xm:∀q∈mm,q.1≠r.d→q∈QJ r.d mm:=fun q hq cV=>cn.2 ⟨hq,by simpa using cV⟩
   have qh:∀p∈tm,p.1≠d→r.d∉p.2.bw→p∈QI d r.d tm:=fun p hp h1 h2=>cn.2 ⟨hp,by simp[h1,h2]⟩
   refine h tm mm dn W4 W5 (ho.Tl r iu cV) a w _ (QT C n P) hh (fun a' w' h'=>ih _ a' w' _ _ j6 gp (fun p hp=>?_) ⟨fun q hq=>Xm q (ho.base q hq) (UU r iu q hq),fun r' dG gd hl=>?_,fun r' dG e' Nf V7 gd hl hb=>?_,fun r' dG b cs Lb hl=>?_,fun q hq=>?_,fun r' dG gd q hq=>ho.Tl r' dG gd q (cn.1 hq).1⟩ h')
   ·rcases ae.1 (A7 d s e1 e2 p hp)with rfl|sa
    ·exact ah
    ·obtain⟨k1,k2⟩:=cj sa
     exact ab _ (qh p k1 k2 (hAu p hp.1 r iu cV))
   ·rcases hr r' dG with rfl|⟨g1,g2⟩
    ·exact absurd gd cV
    ·rw[fW _ g1]at hl
     rw[w4 r' g2]
     refine Xm _ (ho.ED r' dG gd hl) (fun e=>?_)
     have:=Jf r' dG r iu e
     subst this
     exact cV gd
   ·rcases hr r' dG with rfl|⟨g1,g2⟩
    ·have:=hb i [] cZ
     rw[gE mT]at this;cases this
    ·rw[fW _ g1]at hl
     have Dd:r'.ar≠none:=by rw[gd];exact fun h=>by cases h
     obtain⟨k1,k2⟩:=ho.PF r' dG e' Nf V7 gd hl (fun b cs cZ=>by rw[←other _ (g2 b cs cZ)];exact hb b cs cZ)
     have Yk:r'.d≠r.d:=fun e=>by
      have:=Jf r' dG r iu e
      subst this
      exact(g2 i [] cZ) J
     exact⟨Xm _ k1 Yk,ab _ (qh _ k2 (R8 r' dG Dd g1 d e1) (by simp[ST.bw,SV.bw,SC.bw];exact fun e=>Yk e.symm))⟩
   ·rcases hr r' dG with rfl|⟨g1,g2⟩
    ·rw[fW _ OT];exact Fu
    ·rw[other _ (g2 b cs Lb)]at hl
     rw[fW _ g1]
     exact ho.order r' dG b cs Lb hl
   ·rcases ho.only q (cn.1 hq).1 with h|⟨r',g1,g2,g3⟩
    ·exact .inl h
    ·refine .inr ⟨r',g1,g2,?_⟩
     by_cases sB:r'.a=i
     ·rw[sB];exact eE mT
     ·rw[fW _ sB];exact g3
end
end Go.Sy
namespace Go.Sy
open Go.RowKit
def oe(d i:Nat)(cs:List SC)(r:Rec):Rec:=
 match Nat.beq r.d d with
 |true=>match r.st with
  |none=>⟨r.a,r.d,r.zr,some (i,cs),r.ar⟩
  |some _=>r
 |false=>r
theorem jZ(d i:Nat)(cs:List SC)(r:Rec):(oe d i cs r).a=r.a∧(oe d i cs r).d=r.d∧(oe d i cs r).zr=r.zr∧(oe d i cs r).ar=r.ar∧
 ((oe d i cs r).st=r.st∨(r.st=none∧(oe d i cs r).st=some (i,cs)))∧(∀x,r.st=some x→oe d i cs r=r)∧(r.d=d→r.st=none→(oe d i cs r).st=some (i,cs))∧(r.d≠d→oe d i cs r=r):=by
 obtain⟨a,e,zr,st,ar⟩:=r
 unfold oe
 cases hb:Nat.beq e d with
 |true=>
  have he:e=d:=aJ hb
  cases st<;>simp[he]
 |false=>
  have cV:e≠d:=fun e'=>by subst e';simp at hb
  simp[cV]
def BX(d i:Nat)(cs:List SC):List Rec→List Rec
 |[]=>[]
 |r::l=>oe d i cs r::BX d i cs l
theorem BW(d i:Nat)(cs:List SC):∀l,BX d i cs l=l.map (oe d i cs)
 |[]=>rfl
 |r::l=>by simp[BX,BW d i cs l]
def zM(d:Nat):List Rec→Option Rec
 |[]=>none
 |r::l=>match Nat.beq r.d d with
  |true=>some r
  |false=>zM d l
theorem xo{d:Nat}{r:Rec}:∀{l:List Rec},zM d l=some r→r∈l∧r.d=d
 |[],h=>by simp[zM]at h
 |a::l,h=>by
  unfold zM at h
  split at h
  ·rename_i hb;injection h with h;subst h;exact⟨ah,aJ hb⟩
  ·obtain⟨h1,h2⟩:=xo h;exact⟨ab _ h1,h2⟩
section
variable {C:Ctx} {n:Nat} {eS:MM} {L:List Oper} {cq tm:TM} {l:List Oper} {T:TM→MM→Prop} {o:Oper} {d i j:Nat} {s:ST} {R:List Rec}
theorem eO.back(hl:d∉aI L o){tm':TM}(h:eO L ((d,s)::bo tm d) o tm'):eO L tm o tm':=
 fun p hp mA=>h p (ab _ (b9 hp fun e=>hl (e▸mA))) mA
theorem Jj.grow(h:Jj C n eS L tm R j o)(hd:o.dst≠some d)(hl:d∉aI L o):Jj C n eS L ((d,s)::bo tm d) R j o:=by
 cases h with
 |val d' s' e1 e2 hr h=>exact .val d' s' e1 (ab _ (b9 e2 fun e=>hd (e▸e1))) hr fun tm' mm' hL=>h tm' mm' (hL.back hl)
 |new d' s' r e1 e2 h3 gj hz h4 h5 h6 h7 h=>exact .new d' s' r e1 (ab _ (b9 e2 fun e=>hd (e▸e1))) h3 gj hz h4 h5 h6 h7 fun tm' mm' hL=>h tm' mm' (hL.back hl)
 |set r cs e1 h2 gj h3 h4 h5 h6 h=>exact .set r cs e1 h2 gj h3 h4 h5 h6 fun tm' mm' hL=>h tm' mm' (hL.back hl)
 |mk d' r e sz ys e1 e2 h3 gj h4 h5 h6 h7 h=>exact .mk d' r e sz ys e1 (ab _ (b9 e2 fun e=>hd (e▸e1))) h3 gj h4 h5 h6 h7 fun tm' mm' hL=>h tm' mm' (hL.back hl)
 |take d' s' r e sz ys e1 e2 h3 gj h4 h5 h6 h7 h=>exact .take d' s' r e sz ys e1 (ab _ (b9 e2 fun e=>hd (e▸e1))) h3 gj h4 h5 h6 h7 fun tm' mm' hL=>h tm' mm' (hL.back hl)
theorem Jj.cons(h:Jj C n eS L tm R j o){r0:Rec}(ha:r0.a≠j)(hs:r0.st=none):Jj C n eS L tm (r0::R) j o:=by
 have key:r0.a≠j∧∀b cs,r0.st=some (b,cs)→b≠j:=⟨ha,fun b cs h=>by rw[hs]at h;cases h⟩
 cases h with
 |val d' s' e1 e2 hr h=>exact .val d' s' e1 e2 (fun r gL=>(ae.1 gL).elim (fun e=>e▸key) (hr r)) h
 |new d' s' r e1 e2 h3 gj hz h4 h5 h6 h7 h=>exact .new d' s' r e1 e2 (ab _ h3) gj hz h4 h5 h6 (fun r gL=>(ae.1 gL).elim (fun e=>.inr (e▸key)) (h7 r)) h
 |set r cs e1 h2 gj h3 h4 h5 h6 h=>exact .set r cs e1 (ab _ h2) gj h3 h4 (fun r gL=>(ae.1 gL).elim (fun e=>.inr (e▸key)) (h5 r)) h6 h
 |mk d' r e sz ys e1 e2 h3 gj h4 h5 h6 h7 h=>exact .mk d' r e sz ys e1 e2 (ab _ h3) gj h4 h5 h6 (fun r gL=>(ae.1 gL).elim (fun e=>.inr (e▸key)) (h7 r)) h
 |take d' s' r e sz ys e1 e2 h3 gj h4 h5 h6 h7 h=>exact .take d' s' r e sz ys e1 e2 (ab _ h3) gj h4 h5 (fun r gL=>(ae.1 gL).elim (fun e=>.inr (e▸key)) (h6 r)) h7 h
theorem Jj.Wh(h:Jj C n eS L tm R j o){cs:List SC}(km:i≠j):Jj C n eS L tm (R.map (oe d i cs)) j o:=by
 have keep:∀r:Rec,(r.a≠j∧∀b uz,r.st=some (b,uz)→b≠j)→((oe d i cs r).a≠j∧∀b uz,(oe d i cs r).st=some (b,uz)→b≠j):=by
  intro r ⟨h1,h2⟩
  obtain⟨k1,k2,k3,_,k4,_⟩:=jZ d i cs r
  refine⟨by rw[k1];exact h1,fun b uz hb=>?_⟩
  rcases k4 with k4|⟨_,k4⟩
  ·rw[k4]at hb;exact h2 b uz hb
  ·rw[k4]at hb;injection hb with hb;injection hb with hb;rw[←hb];exact km
 cases h with
 |val d' s' e1 e2 hr h=>exact .val d' s' e1 e2 (fun r gL=>by obtain⟨r1,h1,rfl⟩:=aL.1 gL;exact keep r1 (hr r1 h1)) h
 |new d' s' r e1 e2 h3 gj hz h4 h5 h6 h7 h=>
  obtain⟨k1,k2,k3,Ry,k4,_⟩:=jZ d i cs r
  refine .new d' s' (oe d i cs r) e1 e2 (bp h3) (by rw[Ry];exact gj) (by rw[k3];exact hz) (by rw[k1];exact h4) (by rw[k2];exact h5) ?_ ?_ (by rw[k3];exact h)
  ·intro b uz hb
   rcases k4 with k4|⟨_,k4⟩
   ·rw[k4]at hb;exact h6 b uz hb
   ·rw[k4]at hb;injection hb with hb;injection hb with hb;rw[←hb];exact km
  ·intro r' gL
   obtain⟨r1,h1,rfl⟩:=aL.1 gL
   rcases h7 r1 h1 with rfl|h8
   ·exact .inl rfl
   ·exact .inr (keep r1 h8)
 |set r uz e1 h2 gj h3 h4 h5 h6 h=>
  obtain⟨k1,k2,k3,Ry,k4,k5,_⟩:=jZ d i cs r
  have hk:=k5 _ h3
  refine .set r uz e1 (by rw[←hk];exact bp h2) gj h3 h4 ?_ h6 h
  intro r' gL
  obtain⟨r1,h1,rfl⟩:=aL.1 gL
  rcases h5 r1 h1 with rfl|h8
  ·exact .inl hk
  ·exact .inr (keep r1 h8)
 |mk d' r e sz ys e1 e2 h3 gj h4 h5 h6 h7 h=>
  obtain⟨k1,k2,k3,Ry,k4,_⟩:=jZ d i cs r
  refine .mk d' (oe d i cs r) e sz ys e1 e2 (bp h3) (by rw[Ry];exact gj) (by rw[k1];exact h4) (by rw[k2];exact h5) ?_ ?_ h
  ·intro b uz hb
   rcases k4 with k4|⟨_,k4⟩
   ·rw[k4]at hb;exact h6 b uz hb
   ·rw[k4]at hb;injection hb with hb;injection hb with hb;rw[←hb];exact km
  ·intro r' gL
   obtain⟨r1,h1,rfl⟩:=aL.1 gL
   rcases h7 r1 h1 with rfl|h8
   ·exact .inl rfl
   ·exact .inr (keep r1 h8)
 |take d' s' r e sz ys e1 e2 h3 gj cZ h4 h5 h6 h=>
  obtain⟨k1,k2,k3,Ry,k4,k5,_⟩:=jZ d i cs r
  have hk:=k5 _ cZ
  refine .take d' s' r e sz ys e1 e2 (by rw[←hk];exact bp h3) gj cZ h4 ?_ h6 h
  intro r' gL
  obtain⟨r1,h1,rfl⟩:=aL.1 gL
  rcases h5 r1 h1 with rfl|h8
  ·exact .inl hk
  ·exact .inr (keep r1 h8)
structure ES(C:Ctx)(n:Nat)(eS:MM)(L:List Oper)(cq:TM)(vB:Nat→List SC→Prop)(ahead l:List Oper)(i:Nat)(tm:TM)(R:List Rec):Prop where
 ok:∀(j:Nat) (o:Oper),j < i→L[j]? =some o→Jj C n eS L tm R j o
 keys:∀p∈tm,∀q∈tm,p.1=q.1→p=q
 base:∀p∈tm,p.1∉bP L→p∈cq
 I9:kV L ahead l i=true
 whole:L=ahead.reverse++l
 len:ahead.length=i
 rd:∀r∈R,∀r'∈R,r.d=r'.d→r=r'
 r0:∀r∈R,∀q∈eS,q.1≠r.d
 rl:∀r∈R,(r.a < i∨L.length≤r.a)∧∀b cs,r.st=some (b,cs)→b < i
 Q4:∀r∈R,(∃o∈ahead,o.dst=some r.d)∨r.d∉bP L
 Tf:∀r∈R,r.ar≠none→∃o,L[r.a]? =some o∧o.dst=some r.d
 Nx:∀r∈R,L.length≤r.a→vB r.d r.zr
def EOps(C:Ctx)(n:Nat)(eS:MM)(L:List Oper)(cq:TM)(i:Nat)(l:List Oper)(tm:TM)(R:List Rec)(T:TM→MM→Prop):Prop:=
 ∀(vB:Nat→List SC→Prop) (ahead:List Oper),ES C n eS L cq vB ahead l i tm R→∃cN RF,T cN (mM RF eS)∧Kt (mM RF eS) cN=true∧yj (mM RF eS) (mM RF eS)=true∧ES C n eS L cq vB L.reverse [] L.length cN RF
theorem EOps.nil(h:T tm (mM R eS))(h1:Kt (mM R eS) tm=true)(h2:yj (mM R eS) (mM R eS)=true):EOps C n eS L cq i [] tm R T:=fun vB ahead hs=>by
 have hL:L=ahead.reverse:=by have:=hs.whole;rwa [et]at this
 have hi:i=L.length:=by rw[hL,dZ,hs.len]
 have ha:ahead=L.reverse:=by rw[hL,List.reverse_reverse]
 subst hi
 rw[←ha]at *
 exact⟨tm,R,h,h1,h2,ha▸hs⟩
theorem ES.cur{vB:Nat→List SC→Prop}{ahead:List Oper}(hs:ES C n eS L cq vB ahead (o::l) i tm R):L[i]? =some o:=by
 have h1:=hs.whole
 have h2:ahead.reverse.length=i:=by rw[dZ,hs.len]
 rw[h1,aN (by omega)]
 simp[h2]
theorem ES.before{vB:Nat→List SC→Prop}{ahead:List Oper}(hs:ES C n eS L cq vB ahead (o::l) i tm R){o':Oper}(hj:j < i)(h:L[j]? =some o'):o'∈ahead:=by
 have h1:=hs.whole
 have h2:ahead.reverse.length=i:=by rw[dZ,hs.len]
 rw[h1,aw (by omega)]at h
 simpa using aj h
theorem ES.next{vB:Nat→List SC→Prop}{ahead:List Oper}(hs:ES C n eS L cq vB ahead (o::l) i tm R)(hd:o.dst=some d){R':List Rec}(hR:R'=R∨∃zr ar,R'=⟨i,d,zr,none,ar⟩::R∧∀q∈eS,q.1≠d)
 (b6:d∉aI L o→(∀r∈R,r.d≠d)→Jj C n eS L ((d,s)::bo tm d) R' i o):
 ES C n eS L cq vB (o::ahead) l (i+1) ((d,s)::bo tm d) R':=by
 obtain⟨h2,h3,h4,h5⟩:=hU hs.I9
 obtain⟨h6,h7⟩:=h5 d hd
 have eA:o∈L:=by rw[hs.whole];simp
 have Jf:∀r∈R,r.d≠d:=fun r hr e=>by
  rcases hs.Q4 r hr with⟨o',dv,uX⟩|hn
  ·exact(eZ h6 o' dv).1 (by rw[uX,e])
  ·exact hn (by rw[e];exact eH eA hd)
 have sb:i < L.length:=(ai.1 hs.cur).1
 refine⟨fun j o' hj dv=>?_,mP hs.keys,fun p hp hn=>?_,h4,by rw[hs.whole];simp,by simp[hs.len],?_,?_,?_,?_,?_,?_⟩
 ·by_cases lz:j=i
  ·subst lz
   rw[hs.cur]at dv;injection dv with dv;subst dv
   exact b6 h7 Jf
  ·have fg:j < i:=by omega
   obtain⟨k1,k2⟩:=eZ h6 o' (hs.before fg dv)
   have:=(hs.ok j o' fg dv).grow (s:=s) k1 k2
   rcases hR with rfl|⟨zr,ar,rfl,_⟩
   ·exact this
   ·exact this.cons (fun e=>lz e.symm) J
 ·rcases ae.1 hp with rfl|hp
  ·exact absurd (eH eA hd) hn
  ·exact hs.base p (cj hp).1 hn
 ·rcases hR with rfl|⟨zr,ar,rfl,_⟩
  ·exact hs.rd
  ·intro r hr r' gL e
   rcases ae.1 hr with rfl|hr<;>rcases ae.1 gL with rfl|gL
   ·rfl
   ·exact absurd e.symm (Jf r' gL)
   ·exact absurd e (Jf r hr)
   ·exact hs.rd r hr r' gL e
 ·rcases hR with rfl|⟨zr,ar,rfl,h0⟩
  ·exact hs.r0
  ·intro r hr
   rcases ae.1 hr with rfl|hr
   ·exact h0
   ·exact hs.r0 r hr
 ·have key:∀r∈R,(r.a < i+1∨L.length≤r.a)∧∀b cs,r.st=some (b,cs)→b < i+1:=fun r hr=>⟨(hs.rl r hr).1.imp jM id,fun b cs h=>jM ((hs.rl r hr).2 b cs h)⟩
  rcases hR with rfl|⟨zr,ar,rfl,h0⟩
  ·exact key
  ·intro r hr
   rcases ae.1 hr with rfl|hr
   ·exact⟨.inl (Nat.lt_succ_self _),fun b cs h=>by cases h⟩
   ·exact key r hr
 ·have key:∀r∈R,(∃o'∈o::ahead,o'.dst=some r.d)∨r.d∉bP L:=fun r hr=>(hs.Q4 r hr).imp (fun⟨o',h1,h2⟩=>⟨o',ab _ h1,h2⟩) id
  rcases hR with rfl|⟨zr,ar,rfl,h0⟩
  ·exact key
  ·intro r hr
   rcases ae.1 hr with rfl|hr
   ·exact .inl ⟨o,ah,hd⟩
   ·exact key r hr
 ·rcases hR with rfl|⟨zr,ar,rfl,h0⟩
  ·exact hs.Tf
  ·intro r hr gj
   rcases ae.1 hr with rfl|hr
   ·exact⟨o,hs.cur,hd⟩
   ·exact hs.Tf r hr gj
 ·rcases hR with rfl|⟨zr,ar,rfl,h0⟩
  ·exact hs.Nx
  ·intro r hr hle
   rcases ae.1 hr with rfl|hr
   ·exact absurd hle (Nat.not_le.2 sb)
   ·exact hs.Nx r hr hle
theorem ES.other{vB:Nat→List SC→Prop}{ahead:List Oper}(hs:ES C n eS L cq vB ahead (o::l) i tm R):∀r∈R,r.a≠i∧∀b cs,r.st=some (b,cs)→b≠i:=
 fun r hr=>⟨by
  have h1:=(ai.1 hs.cur).1
  have:=(hs.rl r hr).1
  omega,fun b cs h=>Nat.ne_of_lt ((hs.rl r hr).2 b cs h)⟩
theorem eW{b:Bool}(h:aY L (aX (aI L o) tm) o=some b){tm':TM}(hs:eO L tm o tm'){mm':MM}{a:Act}{w:World}(hh:Has C n tm' mm' a w):
 Region.wanted o (yielded L.toArray a.tmps)=b:=o4 h hs hh
theorem EOps.step(hg:aY L (aX (aI L o) tm) o=some true)
 (h:∀mm',(∀q∈eS,q∈mm')→(∀p∈mm',∀q∈mm',p.1=q.1→p=q)→M8 C n mm' o (aX (aI L o) tm) d s)(hd:o.dst=some d)
 (k:EOps C n eS L cq (i+1) l ((d,s)::bo tm d) R T):EOps C n eS L cq i (o::l) tm R T:=fun vB ahead hs=>
 k _ _ (hs.next hd (.inl rfl) fun hl _=>.val d s hd ah hs.other fun tm' mm' hL hb a w K Q hh hK=>by
   have Be:eO L tm o tm':=hL.back hl
   rw[if_pos (eW hg Be hh)]
   exact(h mm' hb (o2 hh)).2 tm' (fun p hp=>Be p (dk.1 hp).1 (dk.1 hp).2) a w K Q hh hK)
theorem EOps.skip(hg:aY L (aX (aI L o) tm) o=some false)(hd:o.dst=some d)(hn:Nat.blt d n=true)
 (k:EOps C n eS L cq (i+1) l ((d,.fo [])::bo tm d) R T):EOps C n eS L cq i (o::l) tm R T:=fun vB ahead hs=>
 k _ _ (hs.next hd (.inl rfl) fun hl _=>.val d _ hd ah hs.other fun tm' mm' hL hb a w K Q hh hK=>by
   have Be:eO L tm o tm':=hL.back hl
   rw[if_neg (by rw[eW hg Be hh];simp)]
   obtain⟨H,Z,hm⟩:=hh
   rw[hd]
   exact hK _ _ ⟨H,Z,hm.Ep (a6.mp hn) ⟨#[],rfl,rfl,fun j c hc=>by simp at hc⟩⟩)
theorem EOps.alloc{Θ:da}(bt:a8 C.P Θ){e:TypeId}{z cz:Nat}{ag:Bool}{zr:List CT}{sh:Sh}(hg:aY L (aX (aI L o) tm) o=some true)(ho:o.op=.alloc e)
 (ht:aP Θ e=some ⟨z,cz,ag,some zr,sh⟩)(hd:o.dst=some d)(hn:Nat.blt d n=true)(gb:jj eS d=false)
 (k:EOps C n eS L cq (i+1) l ((d,.v (.one (.ptr d 0)))::bo tm d) (⟨i,d,zr.map SC.c,none,none⟩::R) T):EOps C n eS L cq i (o::l) tm R T:=fun vB ahead hs=>by
 have BH:=fF gb
 refine k _ _ (hs.next hd (.inr ⟨_,_,rfl,fun q hq e=>BH ⟨q,hq,e⟩⟩) fun hl Jf=>?_)
 refine .new d _ ⟨i,d,zr.map SC.c,none,none⟩ hd ah ah rfl (fun c hc=>by obtain⟨x,_,rfl⟩:=aL.1 hc;rfl) J J (fun b cs h=>by cases h) (fun r' gL=>?_) fun tm' mm' hL hf a w K Q hh hK=>?_
 ·rcases ae.1 gL with rfl|gL
  ·exact .inl rfl
  ·exact .inr (hs.other r' gL)
 ·have Be:eO L tm o tm':=hL.back hl
  rw[if_pos (eW hg Be hh)]
  have jR:getM mm' d=none:=by
   cases OP:getM mm' d with
   |none=>rfl
   |some x=>exact absurd J (hf _ (aT OP))
  exact(wq bt ho ht jR hd hn).wp a w K Q hh hK
theorem iZ{l r:TM}{x:Operand}{s:SC}(h:aQ l x=some s):aQ (l++r) x=some s:=by
 unfold aQ at h⊢
 split at h
 ·rename_i hs;rw[zN hs];exact h
 ·cases h
theorem EOps.store{Θ:da}(bt:a8 C.P Θ){t:TypeId}{ti:fN}{x y:Operand}{r:Rec}{cs:List SC}{v:SV}(hg:aY L (aX (aI L o) tm) o=some true)(ho:o.op=.store t x y)
 (ht:aP Θ t=some ti)(hx:aQ (aX (aI L o) tm) x=some (.ptr d 0))(hf:zM d R=some r)(cZ:r.st=none)(gj:r.ar=none)(VY:(eV (fi o.after.toList) r.a||Nat.ble L.length r.a)=true)
 (hy:cx (aX (aI L o) tm) y=some v)(hk:v.cells.all SC.known=true)(cM:Nat.beq v.cells.length ti.size=true)(Jd:gl r.zr 0 v.cells=some cs)(hd:o.dst=none)
 (k:EOps C n eS L cq (i+1) l tm (BX d i cs R) T):EOps C n eS L cq i (o::l) tm R T:=fun vB ahead hs=>by
 obtain⟨h2,h3,h4,h5⟩:=hU hs.I9
 obtain⟨f1,f2⟩:=xo hf
 rw[BW]at k
 obtain⟨k1,k2,k3,Ry,k4,_,k6,_⟩:=jZ d i cs r
 have uq:=fun r=>jZ d i cs r
 have Xs:r.a∈fi o.after.toList∨L.length≤r.a:=by
  rw[eu]at VY
  exact VY.imp cD.1 gw.mp
 refine k _ _ ⟨fun j o' hj dv=>?_,hs.keys,hs.base,h4,by rw[hs.whole];simp,by simp[hs.len],?_,?_,?_,?_,?_,?_⟩
 ·by_cases lz:j=i
  ·subst lz
   rw[hs.cur]at dv;injection dv with dv;subst dv
   refine .set (oe d j cs r) cs hd (bp f1) (by rw[Ry];exact gj) (k6 f2 cZ) (by rw[k1];exact Xs) (fun r' gL=>?_) (by rw[k1];exact(hs.other r f1).1) fun tm' mm' hL eA a w K Q hh hK=>?_
   ·obtain⟨r1,g1,rfl⟩:=aL.1 gL
    by_cases Ea:r1.d=d
    ·have:r1=r:=hs.rd r1 g1 r f1 (by rw[Ea,f2])
     exact .inl (by rw[this])
    ·obtain⟨_,_,_,_,_,_,_,g7⟩:=uq r1
     rw[g7 Ea]
     exact .inr (hs.other r1 g1)
   ·rw[if_pos (eW hg hL hh)]
    rw[k2,k3]at eA
    rw[k2]at hK
    have fy:=uv (o2 hh) eA
    rw[f2]at fy hK
    have dL:=(nG (C:=C) (n:=n) (tm:=aX (aI L o) tm++tm') bt ho ht (iZ hx) fy (mZ hy) hk cM Jd hd).wp
    refine dL a w K Q (hh.kX fun p hp=>(aK.1 hp).elim (fun hp=>hL p (dk.1 hp).1 (dk.1 hp).2) id) fun a' w' h'=>hK a' w' (h'.kX fun p hp=>bQ _ hp)
  ·have fg:j < i:=by omega
   exact(hs.ok j o' fg dv).Wh (fun e=>lz e.symm)
 ·intro a ha b hb e
  obtain⟨a1,g1,rfl⟩:=aL.1 ha
  obtain⟨b1,g2,rfl⟩:=aL.1 hb
  rw[(uq a1).2.1,(uq b1).2.1]at e
  rw[hs.rd a1 g1 b1 g2 e]
 ·intro a ha
  obtain⟨a1,g1,rfl⟩:=aL.1 ha
  rw[(uq a1).2.1]
  exact hs.r0 a1 g1
 ·intro a ha
  obtain⟨a1,g1,rfl⟩:=aL.1 ha
  obtain⟨q1,_,_,_,q4,_⟩:=uq a1
  refine⟨by rw[q1];exact(hs.rl a1 g1).1.imp jM id,fun b uz hb=>?_⟩
  rcases q4 with q4|⟨_,q4⟩
  ·rw[q4]at hb;exact jM ((hs.rl a1 g1).2 b uz hb)
  ·rw[q4]at hb;injection hb with hb;injection hb with hb;omega
 ·intro a ha
  obtain⟨a1,g1,rfl⟩:=aL.1 ha
  rw[(uq a1).2.1]
  exact(hs.Q4 a1 g1).imp (fun⟨o',q1,q2⟩=>⟨o',ab _ q1,q2⟩) id
 ·intro a ha gd
  obtain⟨a1,g1,rfl⟩:=aL.1 ha
  obtain⟨q1,q2,_,YL,_⟩:=uq a1
  rw[YL]at gd
  rw[q1,q2]
  exact hs.Tf a1 g1 gd
 ·intro a ha hle
  obtain⟨a1,g1,rfl⟩:=aL.1 ha
  obtain⟨q1,q2,q3,_⟩:=uq a1
  rw[q1]at hle
  rw[q2,q3]
  exact hs.Nx a1 g1 hle
theorem uf{d:Nat}{o:Oper}(hd:o.dst=some d):∀{l ahead:List Oper} {i:Nat},kV L ahead l i=true→∀(k:Nat),l[k]? =some o→∀o'∈ahead,o'.dst≠some d
 |[],_,_,_,k,ho,_,_=>by simp at ho
 |x::l,ahead,i,h,k,ho,o',dv=>by
  obtain⟨_,_,h3,h4⟩:=hU h
  cases k with
  |zero=>simp at ho;subst ho;exact(eZ (h4 d hd).1 o' dv).1
  |succ k=>exact uf hd h3 k (by simpa using ho) o' (ab _ dv)
theorem ew{d:Nat}{o o':Oper}(hd:o.dst=some d):∀{l ahead:List Oper} {i:Nat},kV L ahead l i=true→∀(k j:Nat),l[k]? =some o→j < k→l[j]? =some o'→o'.dst≠some d
 |[],_,_,_,k,_,ho,_,_=>by simp at ho
 |x::l,ahead,i,h,k,j,ho,hj,dv=>by
  obtain⟨_,_,h3,_⟩:=hU h
  cases k with
  |zero=>omega
  |succ k=>
   cases j with
   |zero=>simp at dv;subst dv;exact uf hd h3 k (by simpa using ho) _ ah
   |succ j=>exact ew hd h3 k j (by simpa using ho) (by omega) (by simpa using dv)
def HO(len:Nat)(mm:MM):List Nat→Option (List Rec)
 |[]=>some []
 |i::l=>match getM mm i with
  |some (.box cs)=>match HO len mm l with
   |some r=>some (⟨len,i,cs,none,none⟩::r)
   |none=>none
  |_=>none
def fO(ids:List Nat):MM→MM
 |[]=>[]
 |(i,o)::r=>match eV ids i with
  |true=>fO ids r
  |false=>(i,o)::fO ids r
theorem eR{ids:List Nat}{q:Nat×MO}:∀{mm:MM},q∈fO ids mm↔q∈mm∧q.1∉ids
 |[]=>by simp[fO]
 |(i,o)::r=>by
  unfold fO
  split
  ·rename_i hm
   rw[eR]
   constructor
   ·rintro⟨h1,h2⟩;exact⟨ab _ h1,h2⟩
   ·rintro⟨h1,h2⟩
    rcases ae.1 h1 with rfl|h1
    ·exact absurd (cD.1 hm) h2
    ·exact⟨h1,h2⟩
  ·rename_i hm
   rw[ae,eR]
   constructor
   ·rintro(rfl|⟨h1,h2⟩)
    ·exact⟨ah,fun hk=>by rw[cD.2 hk]at hm;cases hm⟩
    ·exact⟨ab _ h1,h2⟩
   ·rintro⟨h1,h2⟩
    rcases ae.1 h1 with rfl|h1
    ·exact .inl rfl
    ·exact .inr ⟨h1,h2⟩
theorem Cm:∀mm:MM,fO [] mm=mm
 |[]=>rfl
 |(i,o)::r=>by unfold fO;simp only[eV];rw[Cm r]
theorem y7{len:Nat}{mm:MM}:∀{ids:List Nat} {R:List Rec},HO len mm ids=some R→∀r∈R,r.a=len∧r.st=none∧r.ar=none∧r.d∈ids∧(r.d,MO.box r.zr)∈mm
 |[],R,h=>by
  simp only[HO,cI]at h
  subst h
  exact fun r hr=>(by cases hr)
 |i::l,R,h=>by
  unfold HO at h
  split at h
  ·rename_i cs hg
   split at h
   ·rename_i R' hp
    injection h with h
    subst h
    have h1:=y7 hp
    intro r hr
    rcases ae.1 hr with rfl|hr
    ·exact⟨rfl,rfl,rfl,ah,aT hg⟩
    ·obtain⟨g1,g2,g3,g4,g5⟩:=h1 r hr
     exact⟨g1,g2,g3,ab _ g4,g5⟩
   ·cases h
  ·cases h
theorem G0(ids:List Nat){R0:List Rec}{f:FuncId}{Rr:Ending→World→Prop}{k:List Item}{id:Nat}(mq:C.P.follows .mixedOrders=true)(dn:HO L.length eS ids=some R0)(LA:ids.all (fun i=>!eV (bP L) i)=true)
 (b6:kV L [] L 0=true)(hu:rD (bP L) cq=true)
 (h:EOps C n (fO ids eS) L cq 0 L cq R0 (fun tm' mm'=>Goes C f n Rr k tm' mm')):Goes C f n Rr (.code (.region id L.toArray true)::k) cq eS:=by
 obtain⟨u1,u2⟩:=jW hu
 have p1:=y7 dn
 have R5:∀i∈ids,i∉bP L:=fun i hi hk=>by
  have:=a7.1 LA i hi
  rw[cD.2 hk]at this;cases this
 intro a w hh b cs hb hk
 have Ws:=o2 hh
 have Ea:∀r∈R0,∀r'∈R0,r.d=r'.d→r=r':=by
  intro r hr r' gL e
  obtain⟨a1,a2,a3,_,a5⟩:=p1 r hr
  obtain⟨b1,b2,b3,_,b5⟩:=p1 r' gL
  have:=Ws _ a5 _ b5 e
  injection this with q1 q2
  injection q2 with q2
  obtain⟨ra,rd,rz,rs,rr⟩:=r
  obtain⟨ra',rd',rz',rs',rr'⟩:=r'
  simp only at a1 a2 a3 b1 b2 b3 q1 q2
  simp[a1,a2,a3,b1,b2,b3,q1,q2]
 obtain⟨cN,RF,hg,hT,hM,hF⟩:=h (fun d zr=>(d,MO.box zr)∈eS) [] ⟨fun j o hj=>(by omega),u2,fun p hp _=>hp,b6,rfl,rfl,Ea,fun r hr q hq e=>by
  have:=(eR.1 hq).2
  rw[e]at this
  exact this (p1 r hr).2.2.2.1,
  fun r hr=>⟨.inr (by rw[(p1 r hr).1];exact ay _),fun b cs cZ=>by rw[(p1 r hr).2.1]at cZ;cases cZ⟩,fun r hr=>.inr (R5 _ (p1 r hr).2.2.2.1),fun r hr gj=>absurd (p1 r hr).2.2.1 gj,
  fun r hr _=>(p1 r hr).2.2.2.2⟩
 have gf:∀k,k < L.length→(Array.replicate L.length false).getD k false=false:=fun k hk=>by simp[Array.getD,hk]
 have Qy:∀k,k < L.length→(Array.replicate L.length false).getD k true=false:=fun k hk=>by simp[Array.getD,hk]
 have Fv:∀r∈RF,r.ar≠none→r.d∉ids:=fun r hr gj hi=>by
  obtain⟨o,ho,hd⟩:=hF.Tf r hr gj
  exact R5 _ hi (eH (aj ho) hd)
 have Up:∀r∈RF,r.ar≠none→r.a < L.length:=fun r hr gj=>by
  obtain⟨o,ho,_⟩:=hF.Tf r hr gj
  exact(ai.1 ho).1
 have o3:=PK (P:=fun tm' mm'=>Goes C f n Rr k tm' mm') b6 (fun i o ho=>hF.ok i o (ai.1 ho).1 ho) hF.keys hF.rd hF.r0 (fun r hr=>(hF.rl r hr).2) Up
  (fun r hr gj k o ho hd=>by
    obtain⟨o',dv,uX⟩:=hF.Tf r hr gj
    rcases bI k r.a with bj|heq|bj
    ·exact absurd hd (ew uX b6 _ _ dv bj ho)
    ·exact heq
    ·exact absurd uX (ew hd b6 _ _ ho bj dv))
  hT hM hg L.length (Array.replicate L.length false) a {w with drawn:=w.drawn+1} cq eS (by simp)
  (by rw[show(Array.replicate L.length false).toList=List.replicate L.length false by simp];exact dB (cR _ _) (by simp))
  (fun p hp=>by
    obtain⟨g1,g2|⟨k,o,k1,k2,k3⟩⟩:=hp
    ·exact hF.base p g1 g2
    ·have j7:=(ai.1 k1).1
     rw[gf k j7]at k3;cases k3)
  ⟨fun q hq=>(eR.1 hq).1,fun r hr gj hl=>by
   by_cases w3:r.a < L.length
   ·rw[Qy _ w3]at hl;cases hl
   ·have hz:=hF.Nx r hr (by omega)
    have:r.now (Array.replicate L.length false)=r.zr:=by
     unfold Rec.now
     split
     ·rename_i b' uz cZ
      rw[if_neg (by rw[gf _ ((hF.rl r hr).2 b' uz cZ)];simp)]
     ·rfl
    rw[this];exact hz,
   fun r hr e sz ys gj hl _=>(by
    rw[Qy _ (Up r hr (by rw[gj];exact fun h=>by cases h))]at hl;cases hl),
   fun r hr b' uz cZ hl=>(by
    rw[gf _ ((hF.rl r hr).2 b' uz cZ)]at hl;cases hl),
   fun q hq=>.inl (by
    by_cases nv:q.1∈ids
    ·exact .inr (R5 _ nv)
    ·exact .inl ⟨q,eR.2 ⟨hq,nv⟩,rfl⟩),
   fun r hr gj q hq mR=>by
    obtain⟨q',rm,he⟩:=hh.Gy q hq _ mR
    have nv:q'.1∉ids:=by rw[he];exact Fv r hr gj
    exact hF.r0 r hr q' (eR.2 ⟨rm,nv⟩) he⟩ hh.drawn
 have K9:=wp_region_any (id:=id) (Q:=QT C n (fun tm' mm'=>Goes C f n Rr k tm' mm')) (ops:=L.toArray) (a:=a) (w:=w) mq (by simpa using o3)
 obtain⟨e,a',w',hq,qi⟩:=K9 b k cs
 cases e with
 |normal=>
  obtain⟨tm',mm',hg,IC⟩:=hq
  obtain⟨e,yc,fr,g1,g2,g3⟩:=hg a' w' IC b cs hb hk
  exact⟨e,yc,fr,g1,Comes.of_steps qi g2,g3⟩
 |_=>exact hq.elim
theorem O4{f:FuncId}{Rr:Ending→World→Prop}{k:List Item}{id:Nat}(mq:C.P.follows .mixedOrders=true)(b6:kV L [] L 0=true)(hu:rD (bP L) cq=true)
 (h:EOps C n eS L cq 0 L cq [] (fun tm' mm'=>Goes C f n Rr k tm' mm')):Goes C f n Rr (.code (.region id L.toArray true)::k) cq eS:=
 G0 [] mq J J b6 hu (by rw[Cm];exact h)
end
end Go.Sy
namespace Go.Sy
open Go.RowKit
inductive PV where
 |stop (i:Nat)(l:List Oper)(tm:TM)(R:List Rec)
 |bad
def QE(Θ:da)(n:Nat)(eS:MM)(L:List Oper):Nat→List Oper→TM→List Rec→PV
 |i,[],tm,R=>.stop i [] tm R
 |i,o::r,tm,R=>match aY L (aX (aI L o) tm) o with
  |some true=>match o.dst with
   |some d=>match vE Θ (aX (aI L o) tm) eS o.op with
    |some st=>match oC n d st tm with
     |some tm'=>QE Θ n eS L (i+1) r tm' R
     |none=>.stop i (o::r) tm R
    |none=>match o.op with
     |.alloc e=>match aP Θ e with
      |some ⟨_,_,_,some zr,_⟩=>match jj eS d with
       |false=>match oC n d (.v (.one (.ptr d 0))) tm with
        |some tm'=>QE Θ n eS L (i+1) r tm' (⟨i,d,qd.rZ SC.c zr,none,none⟩::R)
        |none=>.stop i (o::r) tm R
       |true=>.stop i (o::r) tm R
      |_=>.stop i (o::r) tm R
     |_=>.stop i (o::r) tm R
   |none=>match o.op with
    |.store t x y=>match aP Θ t with
     |some ⟨sz,_,_,_,_⟩=>match aQ (aX (aI L o) tm) x with
      |some (.ptr d 0)=>match zM d R with
       |some ⟨ra,rd,zr,none,none⟩=>match(eV (fi o.after.toList) ra||Nat.ble L.length ra)with
        |true=>match cx (aX (aI L o) tm) y with
         |some v=>match v.cells.all SC.known with
          |true=>match Nat.beq v.cells.length sz with
           |true=>match gl zr 0 v.cells with
            |some cs=>QE Θ n eS L (i+1) r tm (BX d i cs R)
            |none=>.stop i (o::r) tm R
           |false=>.stop i (o::r) tm R
          |false=>.stop i (o::r) tm R
         |none=>.stop i (o::r) tm R
        |false=>.stop i (o::r) tm R
       |_=>.stop i (o::r) tm R
      |_=>.stop i (o::r) tm R
     |none=>.stop i (o::r) tm R
    |_=>.stop i (o::r) tm R
  |some false=>match o.dst with
   |some d=>match oC n d (.fo []) tm with
    |some tm'=>QE Θ n eS L (i+1) r tm' R
    |none=>.stop i (o::r) tm R
   |none=>.stop i (o::r) tm R
  |none=>.stop i (o::r) tm R
section
variable {C:Ctx} {n:Nat} {eS:MM} {L:List Oper} {cq:TM} {T:TM→MM→Prop}
theorem kr{mm mm':MM}(hb:∀q∈mm,q∈mm')(hu:∀p∈mm',∀q∈mm',p.1=q.1→p=q):∀i o,getM mm i=some o→getM mm' i=some o:=
 fun i o h=>uv hu (hb _ (aT h))
theorem mV{Θ:da}(bt:a8 C.P Θ):∀{l:List Oper} {i:Nat} {tm:TM} {R:List Rec} {i':Nat} {l':List Oper} {tm':TM} {R':List Rec},
 QE Θ n eS L i l tm R=.stop i' l' tm' R'→EOps C n eS L cq i' l' tm' R' T→EOps C n eS L cq i l tm R T
 |[],i,tm,R,i',l',tm',R',h,k=>by
  simp only[QE,PV.stop.injEq]at h
  obtain⟨rfl,rfl,rfl,rfl⟩:=h
  exact k
 |o::r,i,tm,R,i',l',tm',R',h,k=>by
  have same:PV.stop i (o::r) tm R=.stop i' l' tm' R'→EOps C n eS L cq i (o::r) tm R T:=by
   intro e
   injection e with e1 e2 e3 e4
   subst e1 e2 e3 e4
   exact k
  unfold QE at h
  split at h
  ·rename_i hg
   split at h
   ·rename_i d hd
    split at h
    ·rename_i st hv
     split at h
     ·rename_i En hs
      obtain⟨hn,rfl⟩:=gm hs
      exact EOps.step hg (fun mm' hb hu=>(jU bt (qE (kr hb hu) hv) hd hn).Em) hd (mV bt h k)
     ·exact same h
    ·split at h
     ·rename_i e ho
      split at h
      ·rename_i ht
       split at h
       ·rename_i gb
        split at h
        ·rename_i En hs
         obtain⟨hn,rfl⟩:=gm hs
         refine EOps.alloc bt hg ho ht hd hn gb ?_
         rw[←l7]
         exact mV bt h k
        ·exact same h
       ·exact same h
      ·exact same h
     ·exact same h
   ·rename_i hd
    split at h
    ·rename_i t x y ho
     split at h
     ·rename_i ht
      split at h
      ·rename_i d hx
       split at h
       ·rename_i ra rd zr hf
        split at h
        ·rename_i VY
         split at h
         ·rename_i v hy
          split at h
          ·rename_i hk
           split at h
           ·rename_i cM
            split at h
            ·rename_i cs yp
             exact EOps.store bt hg ho ht hx hf J J VY hy hk cM yp hd (mV bt h k)
            ·exact same h
           ·exact same h
          ·exact same h
         ·exact same h
        ·exact same h
       ·exact same h
      ·exact same h
     ·exact same h
    ·exact same h
  ·rename_i hg
   split at h
   ·rename_i d hd
    split at h
    ·rename_i En hs
     obtain⟨hn,rfl⟩:=gm hs
     exact EOps.skip hg hd hn (mV bt h k)
    ·exact same h
   ·exact same h
  ·exact same h
def TW(Θ:da)(n:Nat)(eS:MM)(L:List Oper)(i:Nat)(l:List Oper)(tm:TM)(R:List Rec):Option PV:=
 match AM tm with
 |some tm'=>match QE Θ n eS L i l tm' R with
  |.stop a b c d=>some (.stop a b c d)
  |.bad=>none
 |none=>none
variable {tm tm':TM} {l l':List Oper} {R R':List Rec} {i i':Nat} {o:Oper} {d t:Nat} {s:ST}
theorem o8{Θ:da}(bt:a8 C.P Θ)(h:TW Θ n eS L i l tm R=some (.stop i' l' tm' R'))(k:EOps C n eS L cq i' l' tm' R' T):EOps C n eS L cq i l tm R T:=by
 unfold TW at h
 split at h
 ·rename_i En h1
  rw[←pK h1]
  split at h
  ·rename_i a b c d h3
   injection h with h
   injection h with e1 e2 e3 e4
   subst e1 e2 e3 e4
   exact mV bt h3 k
  ·cases h
 ·cases h
variable {x y:Operand} {ty rk:TypeId}
theorem SG{st:ST}(h:∀mm',ea C n o (aX (aI L o) tm) mm' d st)(hg:aY L (aX (aI L o) tm) o=some true)(hd:o.dst=some d)(k:EOps C n eS L cq (i+1) l ((d,st)::bo tm d) R T):
 EOps C n eS L cq i (o::l) tm R T:=EOps.step hg (fun mm' _ _=>(h mm').Em) hd k
theorem Md{Θ:da}(bt:a8 C.P Θ){nn:Bool}{sz:Nat}{xs:List (List CT)}{kd:IntKind}{m:Int}{e:Nat}{z cz:Nat}{ag:Bool}{zr:Option (List CT)}{ei:fN}
 (ho:o.op=.indexAddr ty x y)(ht:aP Θ ty=some ⟨z,cz,ag,zr,.slice e⟩)(dO:aP Θ e=some ei)(hx:aQ (aX (aI L o) tm) x=some (.c (.slice nn sz xs)))(cM:Nat.beq ei.size sz=true)
 (hi:aQ (aX (aI L o) tm) y=some (.c (.int kd m)))(hd:o.dst=some d)(hn:Nat.blt d n=true)(hg:aY L (aX (aI L o) tm) o=some true)
 (j:Nat)(cs:List CT)(hm:m=(j:Int))(hj:xs[j]? =some cs)(k:EOps C n eS L cq (i+1) l ((d,.v (.one (.iw cs)))::bo tm d) R T):EOps C n eS L cq i (o::l) tm R T:=
 SG (fun mm'=>wk bt ho ht dO cM hx hi hm hj hd hn) hg hd k
end
structure ConE(P:Program)(f:FuncId)(pre:List (List CT))(args:List SV)(ι:Type)(Q:ι→Prop)(res:ι→ST)(post:ι→List (List CT)):Prop where
 ok:lG P f
 calls:∀(w:World) (M0:Nat→Prop) (H:Nat→Value) (Z:Nat→Nat) (vs:List Value),vB w M0 H Z (bY given pre)→
  Pw (fun v s=>cu (cU (bY given pre)) H Z w (fun b=>M0 b∨bT H (bY given pre) b) v s) vs args→
  Calls P f vs.toArray w fun e w'=>∃x,Q x∧∃v,e=.returned v∧Ext (bT H (bY given pre)) w w'∧
   (∀p∈bY given (post x),eG (cU (bY given pre)) H Z w' (fun b=>M0 b∨bT H (bY given pre) b) p.1 p.2)∧
   eK (cU (bY given pre)) H Z w' (fun b=>M0 b∨bT H (bY given pre) b) v (res x)
theorem Goes.TO{C:Ctx}{f:FuncId}{n:Nat}{R R':Ending→World→Prop}{t:List Item}{tm:TM}{mm:MM}(h:Goes C f n R t tm mm)(hR:∀e w,R e w→R' e w):Goes C f n R' t tm mm:=by
 intro a w hh b cs hb hk
 obtain⟨e,w',fr,h1,h2⟩:=h a w hh b cs hb hk
 exact⟨e,w',fr,hR e w' h1,h2⟩
end Go.Sy
namespace Go.Sy
open Go.RowKit
def jF(i:Nat):TM→TM
 |[]=>[]
 |(t,s)::r=>match eV s.bw i with
  |true=>jF i r
  |false=>(t,s)::jF i r
theorem ja{i:Nat}{p:Nat×ST}:∀{l:TM},p∈jF i l→p∈l∧i∉p.2.bw
 |[],h=>by cases h
 |(t,s)::r,h=>by
  unfold jF at h
  split at h
  ·obtain⟨h1,h2⟩:=ja h;exact⟨ab _ h1,h2⟩
  ·rename_i hm
   rcases ae.1 h with rfl|h
   ·exact⟨ah,fun hk=>by rw[cD.2 hk]at hm;cases hm⟩
   ·obtain⟨h1,h2⟩:=ja h;exact⟨ab _ h1,h2⟩
def eD(i:Nat):MM→Bool
 |[]=>true
 |(_,o)::r=>match eV o.bw i with
  |true=>false
  |false=>eD i r
theorem fD{i:Nat}{p:Nat×MO}:∀{l:MM},eD i l=true→p∈l→i∉p.2.bw
 |[],_,h=>by cases h
 |(t,s)::r,hn,h=>by
  unfold eD at hn
  split at hn
  ·cases hn
  ·rename_i hm
   rcases ae.1 h with rfl|h
   ·exact fun hk=>by rw[cD.2 hk]at hm;cases hm
   ·exact fD hn h
def QP(C:Ctx)(n:Nat)(tm:TM)(mm:MM)(y:Operand)(sz:Nat)(ys:List (List CT)):Prop:=
 ∀H Z a w,Mod C H Z n tm mm a w→(∀q∈ys,q.length=sz)∧∃(ad:Addr) (c:Nat) (news:List Value),a.eval y=.slice (some ad) ys.length c∧news.length=ys.length * sz∧(∀(j:Nat) (u:Value),news[j]? =some u→w.cell? (ad.add j)=some u)∧
  (∀(k:Nat) (q:List CT),ys[k]? =some q→∀(j:Nat) (ct:CT),q[j]? =some ct→∃u,news[k * sz+j]? =some u∧aV w (cO C H mm) u ct)
section
variable {C:Ctx} {n:Nat} {tm:TM} {mm:MM} {o:Oper} {d:Nat}
theorem nH{w:World}{M:Nat→Prop}{sz:Nat}{ys:List (List CT)}{news:List Value}(h0:∀q∈ys,q.length=sz)(hl:news.length=ys.length * sz)
 (h:∀(k:Nat) (q:List CT),ys[k]? =some q→∀(j:Nat) (ct:CT),q[j]? =some ct→∃u,news[k * sz+j]? =some u∧aV w M u ct):∀u∈news,u.oneCell'=true:=by
 intro u hu
 obtain⟨m,hm,Zk⟩:=aC.1 hu
 have cM:0 < sz:=by
  rcases rp sz with h|h
  ·subst h;omega
  ·exact h
 have hk:m / sz < ys.length:=by rw[Nat.div_lt_iff_lt_mul cM];omega
 have hj:m % sz < ys[m / sz].length:=by rw[h0 _ (an hk)];exact Nat.mod_lt _ cM
 obtain⟨u',mR,hr⟩:=h (m / sz) ys[m / sz] (aa hk) (m % sz) _ (aa hj)
 have e:m / sz * sz+m % sz=m:=by rw[Nat.mul_comm];exact Nat.div_add_mod m sz
 rw[e,aa hm,Zk]at mR
 injection mR with mR
 rw[mR];exact hr.one
theorem IL{y:Operand}{k e sz:Nat}{ys:List (List CT)}(hy:aQ tm y=some (.own k))(hk:getM mm k=some (.arr true e sz ys)):QP C n tm mm y sz ys:=by
 intro H Z a w hm
 obtain⟨_,hv⟩:=aU hm hy
 obtain⟨hz,us,dH,vn,hlen,cC⟩:=hm.mem _ (aT hk)
 rcases dH.2 with⟨h0,_⟩|⟨g,cap,cur,hg,h2⟩
 ·exact absurd h0 (vn J)
 ·refine⟨hlen,⟨g,0,none⟩,cap,us,by rw[hv,hg],dH.1,fun j u hu=>?_,cC⟩
  exact World.ownsRow.cells dH (by rw[hg];rfl) j u hu
theorem HY{Θ:da}(bt:a8 C.P Θ){t:TypeId}{x y:Operand}{z cz e:Nat}{ag:Bool}{zt:Option (List CT)}{ei:fN}{zr:List CT}{i:Nat}{nn:Bool}{sz:Nat}{xs ys:List (List CT)}
 (ho:o.op=.call {callee:=.builtin .append,args:=⟨[x,y]⟩,argTypes:=⟨[t,t]⟩})(ht:aP Θ t=some ⟨z,cz,ag,zt,.slice e⟩)(dO:aP Θ e=some ei)(hz:ei.zero=some zr)
 (cM:Nat.beq ei.size sz=true)(lx:Nat.blt 0 ei.size=true)(hx:aQ tm x=some (.own i))(hi:getM mm i=some (.arr nn e sz xs))(hy:QP C n tm mm y sz ys)
 (gW:xs.length+ys.length≤9223372036854775807∧(xs.length+ys.length) * ei.bytes≤140737488355328)(iJ:Nat.blt i given=true)(gA:eD i mm=true)(hd:o.dst=some d)(hn:Nat.blt d n=true):
 xX C n o tm mm ((d,.v (.one (.own i)))::bo (jF i tm) d) (cS mm i (.arr false e sz (xs++ys))):=by
 intro a w ⟨H,Z,hm⟩
 obtain⟨inf,de,hf⟩:=gI bt ht
 obtain⟨jK,qw,fK⟩:=gI bt dO
 obtain⟨zv,wV,qe,BD⟩:=fK.zero zr hz
 obtain⟨A3,_⟩:=e8 (w:=w) (M:=cO C H mm) qe
 have jL:de=.slice e:=by
  have:=hf.sh
  cases de<;>simp[dA]at this⊢
  exact this
 subst jL
 have Fg:ei.size=sz:=aJ cM
 subst Fg
 have oS:0 < ei.size:=a6.mp lx
 obtain⟨_,hv⟩:=aU hm hx
 obtain⟨hZ,us,dH,_,hlen,cC⟩:=hm.mem _ (aT hi)
 obtain⟨um,ad,c,news,YU,yr,Fx,uk⟩:=hy H Z a w hm
 obtain⟨v',w',hr,h2,h3,_,h5⟩:=run_append_own_at (P:=C.P) w 0 t o.type e jK zv ei.size ei.bytes hf.Aj fK.info wV fK.size fK.bytes (by rw[A3,BD]) oS (H i) xs.length us dH ad ys.length c news yr Fx
  (nH um yr uk) (by simp only[maxLen];omega) gW.2 (aF _)
 have dL:(execOp a.eval o).run C.P w=.ok (.value v') w':=by
  unfold execOp
  simp only[ho,resolve,invoke,builtin,Sem.run_bind,Sem.run_pure,Result.andThen_ok,cF,bN,jd,hv,YU,hr]
 have BJ:∀b,Hb v' b↔v'.ownBlock=some b:=fun b=>tQ h2 b
 have Sn:∀b,Hb (H i) b↔(H i).ownBlock=some b:=fun b=>tQ dH b
 have dy:Ext (fun b=>Hb (H i) b) w w':=⟨h3.os,h3.tape,h3.output,h3.size,fun k hk cV=>h3.block k hk (fun e=>cV ((Sn _).2 (by first|exact e|exact e.symm)))⟩
 have oh:∀b,Hb v' b→b < w'.heap.size:=by
  intro b hb
  rcases h2.2 with⟨rfl,_⟩|⟨g,cap,cur,rfl,_,hg,_⟩
  ·simp[Hb,hblk]at hb
  ·simp[Hb,hblk]at hb
   subst hb
   exact(bd.1 hg).1
 have W9:i < given:=a6.mp iJ
 have hI:∀j,cU mm j→cU (cS mm i (.arr false e ei.size (xs++ys))) j:=fun j hj=>(fT j).2 hj
 refine .inl ⟨v',w',dL,jV H i v',Z,?_⟩
 rw[hd]
 refine hm.build (fun b=>Hb (H i) b) dy (fun b _ hb=>⟨_,aT hi,hb⟩) (by simpa[Act.put]using hm.defers) (by simp[Act.put,hm.size]) ?_ ?_ ?_ ?_ ?_
 ·intro p hp lN
  have yq:p.1≠i:=by omega
  rw[bG _ _ yq]
  rcases cW p hp with⟨rfl,_⟩|⟨k1,_⟩
  ·exact absurd J yq
  ·exact hm.hg p k1 lN
 ·intro p hp q hq he
  rcases cW p hp with⟨rfl,_⟩|⟨k1,k2⟩<;>rcases cW q hq with⟨rfl,_⟩|⟨D8,AY⟩
  ·rfl
  ·exact absurd he.symm AY
  ·exact absurd he k2
  ·exact hm.ids p k1 q D8 he
 ·intro p hp
  rcases cW p hp with⟨rfl,_⟩|⟨k1,k2⟩
  ·refine .inr ⟨fun b hb=>?_,fun iP gb=>?_⟩
   ·rw[bm]at hb
    rcases h5 with h5|h5
    ·exact .inr ⟨_,aT hi,(Sn b).2 (by rw[←h5];exact(BJ b).1 hb),.inl rfl⟩
    ·refine .inl ⟨?_,oh b hb⟩
     replace hb:=(BJ b).1 hb;rw[h5]at hb;injection hb with hb;omega
   ·refine⟨hZ,us++news,by rw[bm,au];exact h2,(fun h=>by cases h),fun q hq=>?_,fun k q hk j ct hc=>?_⟩
    ·rcases aK.1 hq with hq|hq
     ·exact hlen q hq
     ·exact um q hq
    ·have qf:us.length=xs.length * ei.size:=dH.1
     rw[bX]at hk
     split at hk
     ·rename_i j7
      obtain⟨u,hu,hr⟩:=cC k q hk j ct hc
      refine⟨u,?_,aV.mono hr h3.size gb iP⟩
      rw[aw (ai.1 hu).1]
      exact hu
     ·rename_i j7
      obtain⟨u,hu,hr⟩:=uk _ q hk j ct hc
      refine⟨u,?_,aV.mono hr h3.size gb iP⟩
      have hle:xs.length * ei.size≤k * ei.size:=br _ (by omega)
      rw[aN (by rw[qf];omega),qf]
      rw[Nat.sub_mul]at hu
      rw[←hu];congr 1;omega
  ·refine .inl ⟨k1,bG _ _ k2,rfl,fun b hb hx=>?_,fun j hj km=>⟨hI j km,bG _ _ (fun e=>?_),rfl⟩⟩
   ·exact hm.sep p k1 _ (aT hi) k2 b hb hx
   ·subst e;exact fD gA k1 hj
 ·intro p hp q hq kl b c9 dS
  have key:∀p∈mm,p.1≠i→Hb (H p.1) b→Hb v' b→False:=by
   intro p hp yq h1 h2
   rcases h5 with h5|h5
   ·exact hm.sep p hp _ (aT hi) yq b h1 ((Sn b).2 (by rw[←h5];exact(BJ b).1 h2))
   ·replace h2:=(BJ b).1 h2;rw[h5]at h2
    injection h2 with h2
    have:=(hm.fresh p hp b h1).2
    omega
  rcases cW p hp with⟨rfl,_⟩|⟨k1,k2⟩<;>rcases cW q hq with⟨rfl,_⟩|⟨D8,AY⟩
  ·exact kl J
  ·rw[bm]at c9;rw[bG _ _ AY]at dS
   exact key q D8 AY dS c9
  ·rw[bm]at dS;rw[bG _ _ k2]at c9
   exact key p k1 k2 c9 dS
  ·rw[bG _ _ k2]at c9;rw[bG _ _ AY]at dS
   exact hm.sep p k1 q D8 kl b c9 dS
 ·intro p hp
  rcases ae.1 hp with rfl|hp
  ·refine .inr fun _ _=>?_
   rw[iD (by rw[hm.size];exact a6.mp hn)]
   exact⟨hI i ⟨_,aT hi,rfl⟩,(bm _ _ _).symm⟩
  ·obtain⟨h1,sE⟩:=cj hp
   obtain⟨Sr,h4⟩:=ja h1
   exact .inl ⟨p,Sr,rfl,fV sE,fun j hj km=>⟨hI j km,bG _ _ (fun e=>h4 (e▸hj)),rfl⟩⟩
theorem Has.Vn{a:Act}{w:World}(t j e sz:Nat)(ht:jD tm t=some (.v (.one (.c .bA))))(hj:Nat.blt j given=true)(hf:jj mm j=false)(h:Has C n tm mm a w):
 Has C n ((t,.v (.one (.own j)))::bo tm t) ((j,.arr false e sz [])::mm) a w:=by
 obtain⟨H,Z,hm⟩:=h
 have BH:=fF hf
 have cV:∀p∈mm,p.1≠j:=fun p hp e=>BH ⟨p,hp,e⟩
 have OF:∀k,cU mm k→k≠j:=fun k ⟨p,hp,e⟩ e'=>cV p hp (e.trans e')
 have hI:∀k,cU mm k→cU ((j,MO.arr false e sz [])::mm) k:=fun k ⟨p,hp,e⟩=>⟨p,ab _ hp,e⟩
 have Ed:j < given:=a6.mp hj
 refine⟨jV H j (.slice none 0 0),jV Z j sz,hm.build (fun _=>False) (Ext.refl _ _) (fun _ _ h=>h.elim) hm.defers hm.size ?_ ?_ ?_ ?_ ?_⟩
 ·intro p hp lN
  rcases ae.1 hp with rfl|hp
  ·simp only at lN;omega
  ·rw[bG _ _ (cV p hp)];exact hm.hg p hp lN
 ·intro p hp q hq he
  rcases ae.1 hp with rfl|hp<;>rcases ae.1 hq with rfl|hq
  ·rfl
  ·exact absurd he.symm (cV q hq)
  ·exact absurd he (cV p hp)
  ·exact hm.ids p hp q hq he
 ·intro p hp
  rcases ae.1 hp with rfl|hp
  ·refine .inr ⟨fun b hb=>by rw[bm]at hb;simp[Hb,hblk]at hb,fun _ _=>⟨bm _ _ _,[],?_,(fun h=>by cases h),(fun q hq=>by cases hq),fun k q hq=>by simp at hq⟩⟩
   rw[bm]
   exact World.ownsRow_nil w 0 e sz
  ·exact .inl ⟨hp,bG _ _ (cV p hp),bG _ _ (cV p hp),fun _ _ h=>h,fun k _ hk=>⟨hI k hk,bG _ _ (OF k hk),bG _ _ (OF k hk)⟩⟩
 ·intro p hp q hq kl b c9 dS
  rcases ae.1 hp with rfl|hp
  ·rw[bm]at c9;simp[Hb,hblk]at c9
  ·rcases ae.1 hq with rfl|hq
   ·rw[bm]at dS;simp[Hb,hblk]at dS
   ·rw[bG _ _ (cV p hp)]at c9
    rw[bG _ _ (cV q hq)]at dS
    exact hm.sep p hp q hq kl b c9 dS
 ·intro p hp
  rcases ae.1 hp with rfl|hp
  ·refine .inr fun _ _=>?_
   have:a.tmps.getD t undef=.slice none 0 0:=aV.jy (hm.tmps _ (gX ht))
   exact⟨⟨_,ah,rfl⟩,by rw[bm];exact this⟩
  ·exact .inl ⟨p,(cj hp).1,rfl,rfl,fun k _ hk=>⟨hI k hk,bG _ _ (OF k hk),bG _ _ (OF k hk)⟩⟩
end
section
variable {C:Ctx} {f:FuncId} {n:Nat} {R:Ending→World→Prop} {k:List Item} {tm:TM} {mm:MM} {L l:List Oper} {T:TM→MM→Prop} {o:Oper} {d:Nat}
theorem pX(t j e sz:Nat)(ht:jD tm t=some (.v (.one (.c .bA))))(hj:Nat.blt j given=true)(hf:jj mm j=false)
 (g:Goes C f n R k ((t,.v (.one (.own j)))::bo tm t) ((j,.arr false e sz [])::mm)):Goes C f n R k tm mm:=g.mono fun _ _ h=>h.Vn t j e sz ht hj hf
theorem eo{Θ:da}(bt:a8 C.P Θ){t:TypeId}{x y:Operand}{z cz e:Nat}{ag:Bool}{zt:Option (List CT)}{ei:fN}{zr:List CT}{i k e':Nat}{nn:Bool}{sz:Nat}{xs ys:List (List CT)}
 (ho:o.op=.call {callee:=.builtin .append,args:=⟨[x,y]⟩,argTypes:=⟨[t,t]⟩})(ht:aP Θ t=some ⟨z,cz,ag,zt,.slice e⟩)(dO:aP Θ e=some ei)(hz:ei.zero=some zr)
 (cM:Nat.beq ei.size sz=true)(lx:Nat.blt 0 ei.size=true)(hx:aQ tm x=some (.own i))(hi:getM mm i=some (.arr nn e sz xs))(hy:aQ tm y=some (.own k))(hk:getM mm k=some (.arr true e' sz ys))
 (iJ:Nat.blt i given=true)(gA:eD i mm=true)(hd:o.dst=some d)(hn:Nat.blt d n=true)(hg:aY L tm o=some true)
 (gW:xs.length+ys.length≤9223372036854775807∧(xs.length+ys.length) * ei.bytes≤140737488355328)
 (g:SOps C n L.toArray l ((d,.v (.one (.own i)))::bo (jF i tm) d) (cS mm i (.arr false e sz (xs++ys))) T):SOps C n L.toArray (o::l) tm mm T:=
 cB (HY bt ho ht dO hz cM lx hx hi (IL hy hk) gW iJ gA hd hn).wp hg g
end
theorem aZ{P:Program}{w0:World}{M0:Nat→Prop}{f:FuncId}{n:Nat}{tm:TM}{mm:MM}{pre post:List (List CT)}{H:Nat→Value}{Z:Nat→Nat}{Θ:da}(bt:a8 P Θ)
 {fn:Func}(hf:P.funcs[f]? =some fn){rs:List SV}{res:ST}{y9:List (List CT)}{t:List Item}(ht:t=[]∨∃k,t=.code .ret::k)
 (hr:uN Θ tm mm fn.results.toList=some rs)(hp:jt (dd rs)=true)(r9:y8 mm given pre.length=some y9)
 (he:BL (dd rs) res)(sa:y9=post):
 Goes ⟨P,w0,M0,bT H (bY given pre),H,fun _=>False,fun _ h=>h.elim⟩ f n (MT H Z pre post w0 M0 res) t tm mm:=
 (dw bt hf ht hr hp r9 ⟨rfl,sa⟩).TO fun e w ⟨v,h1,h2,h3,h4⟩=>⟨v,h1,h2,h3,he.rep h4⟩
theorem dY{C:Ctx}{f:FuncId}{n:Nat}{R:Ending→World→Prop}{k:List Item}{tm:TM}{mm:MM}(i:Nat){nn:Bool}{e sz:Nat}{xs:List (List CT)}(hi:getM mm i=some (.arr nn e sz xs))(hg:Nat.blt i given=true)
 (g:Goes C f n R k (uL i (.c (.slice nn sz xs)) tm) (im i (.c (.slice nn sz xs)) mm)):Goes C f n R k tm mm:=g.mono fun _ _ h=>h.freeze hi hg
theorem fa{C:Ctx}{n:Nat}{L l:List Oper}{T:TM→MM→Prop}{tm:TM}{mm:MM}(i:Nat){nn:Bool}{e sz:Nat}{xs:List (List CT)}(hi:getM mm i=some (.arr nn e sz xs))(hg:Nat.blt i given=true)
 (g:SOps C n L.toArray l (uL i (.c (.slice nn sz xs)) tm) (im i (.c (.slice nn sz xs)) mm) T):SOps C n L.toArray l tm mm T:=g.mono fun _ _ h=>h.freeze hi hg
end Go.Sy
