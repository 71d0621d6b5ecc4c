/- The symbolic layer, bundle Sy3. -/
import Derived.Test.YtdjocfajcbhmgaaGreatDoorSy2
import Derived.Maps.AppendAt
set_option linter.unusedSimpArgs false
set_option linter.unusedVariables false
set_option linter.unusedSectionVars false
namespace Go.Sy
open Go.RowKit
section
variable {C:Ctx} {f:FuncId} {n:Nat} {R:Ending→World→Prop} {k:List Item} {tm tm':TM} {mm mm':MM}
theorem a7.HG{w:World}{M:Nat→Prop}{v:Value}{nn:Bool}{sz:Nat}{xs:List (List CT)}(h:a7 w M v (.slice nn sz xs)):xs.length≤maxLen:=by
 cases h with
 |slice u hlen j3 kY _ _ _ _=>omega
theorem gl(t:Nat){nn:Bool}{sz:Nat}{xs:List (List CT)}(ht:iX tm t=some (.v (.one (.c (.slice nn sz xs)))))(g:xs.length≤9223372036854775807→Goes C f n R k tm mm):Goes C f n R k tm mm:=by
 intro a w hh
 obtain⟨H,Z,hm⟩:=hh
 have:=a7.HG (hm.tmps _ (gk ht))
 exact g (dN this (by decide)) a w ⟨H,Z,hm⟩
end
end Go.Sy
namespace Go.Sy
open Go.RowKit
theorem pb{Θ:dD}{tm:TM}{mm mm':MM}{p:Op}{st:ST}(DT:∀i o,getM mm i=some o→getM mm' i=some o)(h:vr Θ tm mm p=some st):vr Θ tm mm' p=some st:=by
 have key:∀i,getM mm i=none∨getM mm' i=getM mm i:=by
  intro i
  cases hg:getM mm i with
  |none=>exact .inl rfl
  |some o=>exact .inr (DT i o hg)
 unfold vr at h⊢
 split at h<;>first|exact h|skip
 ·
  split at h
  ·rename_i ht
   try simp only[ht]
   split at h
   ·rename_i i off hx
    try simp only[hx]
    rcases key i with h0|h0
    ·simp only[h0]at h;cases h
    ·rw[h0];exact h
   ·rename_i hx;(try simp only[hx]);exact h
   ·cases h
  ·cases h
 ·
  rename_i f df
  cases hc:pI tm df.toList with
  |none=>simp[hc]at h
  |some ids=>
   simp only[hc]at h⊢
   split at h
   ·rename_i ha
    split
    ·exact h
    ·rename_i hf
     exfalso
     obtain⟨i,hi,h2⟩:=dH.1 hf
     have h1:=aV.1 ha i hi
     rcases key i with h0|h0
     ·simp only[h0]at h1;cases h1
     ·rw[h0]at h2;exact h2 h1
   ·cases h
 ·
  split at h
  ·rename_i ht
   try simp only[ht]
   split at h
   ·rename_i s hx
    try simp only[hx]
    split at h
    ·rename_i m hm
     have:uv mm' s=some m:=by
      unfold uv at hm⊢
      split at hm<;>first|exact hm|skip
      rename_i i
      rcases key i with h0|h0
      ·rw[h0]at hm;cases hm
      ·rw[h0];exact hm
     simp only[this];exact h
    ·cases h
   ·cases h
  ·rename_i ht;(try simp only[ht]);exact h
  ·rename_i ht
   try simp only[ht]
   split at h
   ·rename_i i hx
    try simp only[hx]
    rcases key i with h0|h0
    ·simp only[h0]at h;cases h
    ·rw[h0];exact h
   ·cases h
  ·cases h
end Go.Sy
namespace Go.Sy
open Go.RowKit
theorem sx{mm:MM}(hu:∀p∈mm,∀q∈mm,p.1=q.1→p=q){i:Nat}{o:MO}(h:(i,o)∈mm):getM mm i=some o:=by
 cases hg:getM mm i with
 |none=>exact absurd ⟨_,h,rfl⟩ (getM_none hg)
 |some o'=>
  have:=hu _ (aN hg) _ h J
  injection this with _ e;rw[e]
theorem nA{i:Nat}{o:MO}{p:Nat×MO}:∀{mm:MM},((p=(i,o)∧cD mm i)∨(p∈mm∧p.1≠i))→p∈cK mm i o
 |[],h=>by
  rcases h with⟨_,q,hq,_⟩|⟨h,_⟩
  ·cases hq
  ·cases h
 |(e,u)::r,h=>by
  unfold cK
  cases hb:Nat.beq e i with
  |true=>
   have he:e=i:=aR hb
   subst he
   rcases h with⟨rfl,_⟩|⟨h,cj⟩
   ·exact ah
   ·rcases ae.1 h with rfl|h
    ·exact absurd J cj
    ·exact ab _ (nA (.inr ⟨h,cj⟩))
  |false=>
   have cj:e≠i:=fun e'=>by subst e';simp at hb
   rcases h with⟨rfl,q,hq,lC⟩|⟨h,hn⟩
   ·rcases ae.1 hq with rfl|hq
    ·exact absurd lC cj
    ·exact ab _ (nA (.inl ⟨rfl,q,hq,lC⟩))
   ·rcases ae.1 h with rfl|h
    ·exact ah
    ·exact ab _ (nA (.inr ⟨h,hn⟩))
structure Rec where
 a:Nat
 d:Nat
 zr:List SC
 st:Option (Nat×List SC)
 ar:Option (TypeId×Nat×List (List CT))
def Rec.now(r:Rec)(listed:Array Bool):List SC:=
 match r.st with
 |some (b,cs)=>if listed.getD b false=true then cs else r.zr
 |none=>r.zr
def Rec.fin(r:Rec):List SC:=
 match r.st with
 |some (_,cs)=>cs
 |none=>r.zr
def lS:List Rec→MM→MM
 |[],mm=>mm
 |r::l,mm=>match r.ar with
  |none=>(r.d,.box r.fin)::lS l mm
  |some _=>lS l mm
theorem ql{mm:MM}{q:Nat×MO}:∀{R:List Rec},q∈lS R mm→q∈mm∨∃r∈R,r.ar=none∧q=(r.d,.box r.fin)
 |[],h=>.inl h
 |r::R,h=>by
  unfold lS at h
  split at h
  ·rename_i fG
   rcases ae.1 h with rfl|h
   ·exact .inr ⟨r,ah,fG,rfl⟩
   ·rcases ql h with h|⟨r',h1,h2⟩
    ·exact .inl h
    ·exact .inr ⟨r',ab _ h1,h2⟩
  ·rcases ql h with h|⟨r',h1,h2⟩
   ·exact .inl h
   ·exact .inr ⟨r',ab _ h1,h2⟩
theorem x7{mm:MM}{r:Rec}(fG:r.ar=none):∀{R:List Rec},r∈R→(r.d,MO.box r.fin)∈lS R mm
 |[],h=>by cases h
 |r'::R,h=>by
  unfold lS
  rcases ae.1 h with rfl|h
  ·rw[fG];exact ah
  ·split
   ·exact ab _ (x7 fG h)
   ·exact x7 fG h
section
variable {C:Ctx} {n:Nat} {eh:MM} {L:List Oper}
def eN(L:List Oper)(tm:TM)(o:Oper)(tm':TM):Prop:=∀p∈tm,p.1∈aK L o→p∈tm'
def MI(d' i:Nat)(tm:TM):TM:=tm.filter fun p=>decide (p.1≠d'∧i∉p.2.bD)
def MJ(i:Nat)(mm:MM):MM:=mm.filter fun q=>decide (q.1≠i)
inductive F4(C:Ctx)(n:Nat)(eh:MM)(L:List Oper)(tm:TM)(R:List Rec)(i:Nat)(o:Oper):Prop
 |val (d:Nat) (s:ST) (hd:o.dst=some d) (eL:(d,s)∈tm)
   (hr:∀r∈R,r.a≠i∧∀b cs,r.st=some (b,cs)→b≠i)
   (h:∀tm' mm',eN L tm o tm'→(∀q∈eh,q∈mm')→∀(a:Act) (w:World) (K:Act→World→Prop) (Q:Exit→Act→World→Prop),Has C n tm' mm' a w→
     (∀a' w',Has C n ((d,s)::bw tm' d) mm' a' w'→K a' w')→
     if Region.wanted o (yielded L.toArray a.tmps)then o.wp C.P a w K Q else K (a.put o.dst undef) w)
 |new (d:Nat) (s:ST) (r:Rec) (hd:o.dst=some d) (eL:(d,s)∈tm) (gH:r∈R) (fG:r.ar=none) (hz:∀c∈r.zr,c.bD=[]) (uz:r.a=i) (Bs:r.d=d) (o3:∀b cs,r.st=some (b,cs)→b≠i)
   (hr:∀r'∈R,r'=r∨(r'.a≠i∧∀b cs,r'.st=some (b,cs)→b≠i))
   (h:∀tm' mm',eN L tm o tm'→(∀q∈mm',q.1≠d)→∀(a:Act) (w:World) (K:Act→World→Prop) (Q:Exit→Act→World→Prop),Has C n tm' mm' a w→
     (∀a' w',Has C n ((d,s)::bw tm' d) ((d,.box r.zr)::mm') a' w'→K a' w')→
     if Region.wanted o (yielded L.toArray a.tmps)then o.wp C.P a w K Q else K (a.put o.dst undef) w)
 |set (r:Rec) (cs:List SC) (hd:o.dst=none) (gH:r∈R) (fG:r.ar=none) (eu:r.st=some (i,cs)) (uz:r.a∈fz o.after.toList∨L.length≤r.a)
   (hr:∀r'∈R,r'=r∨(r'.a≠i∧∀b cs,r'.st=some (b,cs)→b≠i)) (K7:r.a≠i)
   (h:∀tm' mm',eN L tm o tm'→(r.d,.box r.zr)∈mm'→∀(a:Act) (w:World) (K:Act→World→Prop) (Q:Exit→Act→World→Prop),Has C n tm' mm' a w→
     (∀a' w',Has C n tm' (cK mm' r.d (.box cs)) a' w'→K a' w')→
     if Region.wanted o (yielded L.toArray a.tmps)then o.wp C.P a w K Q else K (a.put o.dst undef) w)
 |mk (d:Nat) (r:Rec) (e:TypeId) (sz:Nat) (ys:List (List CT)) (hd:o.dst=some d) (eL:(d,.v (.one .any))∈tm) (gH:r∈R) (fG:r.ar=some (e,sz,ys)) (uz:r.a=i) (Bs:r.d=d) (o3:∀b cs,r.st=some (b,cs)→b≠i)
   (hr:∀r'∈R,r'=r∨(r'.a≠i∧∀b cs,r'.st=some (b,cs)→b≠i))
   (h:∀tm' mm',eN L tm o tm'→(∀q∈mm',q.1≠d)→∀(a:Act) (w:World) (K:Act→World→Prop) (Q:Exit→Act→World→Prop),Has C n tm' mm' a w→
     (∀a' w',Has C n ((d,.v (.one (.own d)))::bw tm' d) ((d,.arr false e sz ys)::mm') a' w'→K a' w')→
     if Region.wanted o (yielded L.toArray a.tmps)then o.wp C.P a w K Q else K (a.put o.dst undef) w)
 |take (d:Nat) (s:ST) (r:Rec) (e:TypeId) (sz:Nat) (ys:List (List CT)) (hd:o.dst=some d) (eL:(d,s)∈tm) (gH:r∈R) (fG:r.ar=some (e,sz,ys)) (eu:r.st=some (i,[])) (uz:r.a∈fz o.after.toList)
   (hr:∀r'∈R,r'=r∨(r'.a≠i∧∀b cs,r'.st=some (b,cs)→b≠i)) (K7:r.a≠i)
   (h:∀tm' mm',eN L tm o tm'→(r.d,.v (.one (.own r.d)))∈tm'→(r.d,.arr false e sz ys)∈mm'→(∀q∈mm',r.d∉q.2.bD)→∀(a:Act) (w:World) (K:Act→World→Prop) (Q:Exit→Act→World→Prop),Has C n tm' mm' a w→
     (∀a' w',Has C n ((d,s)::MI d r.d tm') (MJ r.d mm') a' w'→K a' w')→
     if Region.wanted o (yielded L.toArray a.tmps)then o.wp C.P a w K Q else K (a.put o.dst undef) w)
def rR(L:List Oper)(d:Nat):List Oper→Bool
 |[]=>true
 |o::r=>match fw (aK L o) d with
  |true=>false
  |false=>match o.dst with
   |none=>rR L d r
   |some e=>match Nat.beq e d with
    |true=>false
    |false=>rR L d r
def kX(L:List Oper):List Oper→List Oper→Nat→Bool
 |_,[],_=>true
 |ahead,o::r,i=>match mM (aK L o) (fz o.after.toList) L 0,mj (fz o.after.toList) i with
  |true,true=>match o.dst with
   |none=>kX L (o::ahead) r (i+1)
   |some d=>match rR L d ahead,fw (aK L o) d with
    |true,false=>kX L (o::ahead) r (i+1)
    |_,_=>false
  |_,_=>false
theorem eD{d:Nat}:∀{l:List Oper},rR L d l=true→∀o∈l,o.dst≠some d∧d∉aK L o
 |[],_,o,ho=>by cases ho
 |a::l,h,o,ho=>by
  unfold rR at h
  split at h
  ·cases h
  ·rename_i hm
   have hl:d∉aK L a:=fun hk=>by rw[cz.2 hk]at hm;cases hm
   split at h
   ·rename_i he
    rcases ae.1 ho with rfl|ho
    ·exact⟨fun e=>(by rw[he]at e;cases e),hl⟩
    ·exact eD h o ho
   ·rename_i e he
    split at h
    ·cases h
    ·rename_i hb
     rcases ae.1 ho with rfl|ho
     ·exact⟨fun e'=>(by rw[he]at e';injection e' with e';subst e';simp at hb),hl⟩
     ·exact eD h o ho
theorem gv{ahead l:List Oper}{o:Oper}{i:Nat}(h:kX L ahead (o::l) i=true):
 mM (aK L o) (fz o.after.toList) L 0=true∧mj (fz o.after.toList) i=true∧kX L (o::ahead) l (i+1)=true∧
 ∀d,o.dst=some d→rR L d ahead=true∧d∉aK L o:=by
 unfold kX at h
 split at h
 ·rename_i h1 h2
  split at h
  ·rename_i hd;exact⟨h1,h2,h,fun d e=>(by rw[hd]at e;cases e)⟩
  ·rename_i d hd
   split at h
   ·rename_i h3 h4
    refine⟨h1,h2,h,fun d' e=>?_⟩
    rw[hd]at e;injection e with e;subst e
    exact⟨h3,fun hk=>(by rw[cz.2 hk]at h4;cases h4)⟩
   ·cases h
 ·cases h
theorem gU:∀{l ahead:List Oper} {i:Nat},kX L ahead l i=true→∀(k:Nat) (o:Oper),l[k]? =some o→
 mM (aK L o) (fz o.after.toList) L 0=true∧mj (fz o.after.toList) (i+k)=true
 |[],_,_,_,k,o,ho=>by simp at ho
 |a::l,ahead,i,h,k,o,ho=>by
  obtain⟨h4,h5,h6,_⟩:=gv h
  cases k with
  |zero=>simp at ho;subst ho;exact⟨h4,h5⟩
  |succ k=>
   have:=gU h6 k o (by simpa using ho)
   rwa [show i+1+k=i+(k+1) by omega]at this
structure Jn(L:List Oper)(eh:MM)(R:List Rec)(listed:Array Bool)(tm:TM)(mm:MM):Prop where
 base:∀q∈eh,q∈mm
 BN:∀r∈R,r.ar=none→listed.getD r.a true=true→(r.d,MO.box (r.now listed))∈mm
 LI:∀r∈R,∀e sz ys,r.ar=some (e,sz,ys)→listed.getD r.a true=true→(∀b cs,r.st=some (b,cs)→listed.getD b false=false)→(r.d,MO.arr false e sz ys)∈mm∧(r.d,ST.v (.one (.own r.d)))∈tm
 order:∀r∈R,∀b cs,r.st=some (b,cs)→listed.getD b false=true→listed.getD r.a true=true
 only:∀q∈mm,((∃q'∈eh,q'.1=q.1)∨q.1∉bV L)∨∃r∈R,r.d=q.1∧listed.getD r.a true=true
 Ph:∀r∈R,r.ar≠none→∀q∈mm,r.d∉q.2.bD
theorem gZ{listed:Array Bool}{i:Nat}(h:i < listed.size):(listed.setIfInBounds i true).getD i false=true:=by
 simp[Array.getD,h]
theorem dY{listed:Array Bool}{i:Nat}(h:i < listed.size):(listed.setIfInBounds i true).getD i true=true:=by
 simp[Array.getD,h]
theorem oE{listed:Array Bool}{i:Nat}(h:i < listed.size):listed.getD i true=listed.getD i false:=by
 simp[Array.getD,h]
theorem nK{tm:TM}{mm:MM}{a:Act}{w:World}(h:Has C n tm mm a w):∀p∈mm,∀q∈mm,p.1=q.1→p=q:=by
 obtain⟨H,Z,hm⟩:=h
 exact hm.ids
theorem Has.less{tm tm':TM}{mm mm':MM}{a:Act}{w:World}(h:Has C n tm mm a w)(ht:∀p∈tm',p∈tm)(hm:∀q∈mm',q∈mm)(b7:Km mm' tm'=true)(H5:x3 mm' mm'=true):Has C n tm' mm' a w:=by
 obtain⟨H,Z,dC⟩:=h
 have hM:∀b,b < w.heap.size→cU C H mm' b→cU C H mm b:=by
  rintro b _ (hb|⟨p,hp,cC⟩)
  ·exact .inl hb
  ·exact .inr ⟨_,hm p hp,cC⟩
 refine⟨H,Z,dC.defers,dC.size,dC.L9,fun p hp=>dC.hg p (hm p hp),dC.ext,dC.m0,fun p hp q hq=>dC.ids p (hm p hp) q (hm q hq),?_,fun p hp=>dC.fresh p (hm p hp),fun p hp q hq=>dC.sep p (hm p hp) q (hm q hq),?_⟩
 ·intro p hp
  exact(dC.mem _ (hm p hp)).mono ⟨rfl,rfl⟩ (fun _ _=>rfl) (fun j hj _=>⟨iT H5 p hp j hj,rfl,rfl⟩) (aA _) (fun _ _ _=>rfl) hM
 ·intro p hp
  exact(dC.tmps _ (ht p hp)).mono (fun j hj _=>⟨qk b7 p hp j hj,rfl,rfl⟩) (aA _) (fun _ _ _=>rfl) hM
theorem BM{I:Nat→Prop}{H:Nat→Value}{Z:Nat→Nat}{w:World}{M:Nat→Prop}{v:Value}{x:SC}(h:bR I H Z w M v x):∀j∈x.bD,I j:=by
 intro j hj
 cases x with
 |c x=>simp[SC.bD]at hj
 |lit b=>simp[SC.bD]at hj
 |ptr i off=>simp[SC.bD]at hj;subst hj;exact h.1
 |iu i k off=>simp[SC.bD]at hj;subst hj;exact h.1
 |hC cs=>simp[SC.bD]at hj
 |own i=>simp[SC.bD]at hj;subst hj;exact h.1
 |mp i=>simp[SC.bD]at hj;subst hj;exact h.1
 |td i n=>simp[SC.bD]at hj;subst hj;exact h.1
 |ku f df=>exact h.1 j hj
 |any=>simp[SC.bD]at hj
theorem Has.Kz{tm:TM}{mm:MM}{a:Act}{w:World}(h:Has C n tm mm a w):∀q∈mm,∀j∈q.2.bD,cD mm j:=by
 obtain⟨H,Z,hm⟩:=h
 intro q hq j hj
 have dL:=hm.mem q hq
 obtain⟨i,o⟩:=q
 cases o with
 |box cs=>
  obtain⟨b,ty,vs,h1,h2,h3,h4⟩:=dL
  simp only[MO.bD,bt]at hj
  obtain⟨c,hc,hj⟩:=hj
  obtain⟨k,hk,rfl⟩:=aB.1 hc
  obtain⟨u,_,_,hr⟩:=h4 k _ (aa hk)
  exact BM hr j hj
 |arr nn e sz xs=>simp[MO.bD]at hj
 |lo es=>simp[MO.bD]at hj
 |bG e sz qs=>simp[MO.bD]at hj
theorem LO{dc:TM}{R:List Rec}(b7:kX L [] L 0=true)(hF:∀(i:Nat) (o:Oper),L[i]? =some o→F4 C n eh L dc R i o)
 (Cl:∀p∈dc,∀q∈dc,p.1=q.1→p=q)(F1:∀r∈R,∀r'∈R,r.d=r'.d→r=r')(Ov:∀r∈R,∀q∈eh,q.1≠r.d)(Wy:∀r∈R,∀b cs,r.st=some (b,cs)→b < L.length)
 (Wz:∀r∈R,r.ar≠none→r.a < L.length)(Wx:∀r∈R,r.ar≠none→∀k o,L[k]? =some o→o.dst=some r.d→k=r.a)
 (QA:Km (lS R eh) dc=true)(QB:x3 (lS R eh) (lS R eh)=true){P:TM→MM→Prop}(hP:P dc (lS R eh)):
 ∀(fuel:Nat) (listed:Array Bool) (a:Act) (w:World) (tm:TM) (mm:MM),listed.size=L.length→(listed.toList.filter (!·)).length≤fuel→(∀p,nD L listed dc p→p∈tm)→Jn L eh R listed tm mm→Has C n tm mm a w→
  wpAny C.P .any L.toArray (QT C n P) fuel listed a w:=by
 have Cz:∀r∈R,r.ar≠none→¬cD (lS R eh) r.d:=by
  rintro r hr fG ⟨q,hq,he⟩
  rcases ql hq with hq|⟨r',h1,h2,rfl⟩
  ·exact Ov r hr q hq he
  ·have:=F1 r' h1 r hr he
   subst this
   exact fG h2
 have WI:∀p∈dc,∀r∈R,r.ar≠none→r.d∉p.2.bD:=fun p hp r hr fG hu=>Cz r hr fG (qk QA p hp _ hu)
 have WB:∀r∈R,r.ar=none→∀r'∈R,r'.ar≠none→r'.d∉(MO.box r.fin).bD:=fun r hr fG r' ga fD hu=>Cz r' ga fD (iT QB _ (x7 fG hr) _ hu)
 have nH:∀(listed:Array Bool),listed.size=L.length→Region.ready .any L.toArray listed=[]→∀k,k < L.length→listed.getD k false=true:=by
  intro listed c8 hr k
  induction k using Nat.strongRecOn with
  |_ k ih=>
   intro hk
   cases hl:listed.getD k false with
   |true=>rfl
   |false=>
    have dL:k∈Region.ready .any L.toArray listed:=by
     rw[mem_ready]
     refine⟨?_,L[k],by simp[hk],fun e he hb=>?_⟩
     ·have K3:k < listed.size:=by omega
      simp[Array.getD,K3]at hl⊢;exact hl
     ·obtain⟨_,h3⟩:=gU b7 k L[k] (aa hk)
      have:e.on∈fz L[k].after.toList:=by
       have key:∀l:List Edge,e∈l→e.on∈fz l:=by
        intro l
        induction l with
        |nil=>intro h;cases h
        |cons x l ih=>
         intro h
         unfold fz
         rcases ae.1 h with rfl|h
         ·rw[hb];exact ah
         ·split
          ·exact ab _ (ih h)
          ·exact ih h
       exact key _ (by simpa using he)
      have bo:=dR h3 _ this
      exact ih e.on (by omega) (by omega)
    rw[hr]at dL;cases dL
 have sw:∀(listed:Array Bool) (a:Act) (w:World) (tm:TM) (mm:MM),listed.size=L.length→(∀p,nD L listed dc p→p∈tm)→Jn L eh R listed tm mm→Has C n tm mm a w→Region.ready .any L.toArray listed=[]→QT C n P .normal a w:=by
  intro listed a w tm mm c8 hk ho hh hr
  refine⟨dc,lS R eh,hP,hh.less (fun p hp=>hk p ⟨hp,?_⟩) (fun q hq=>?_) QA QB⟩
  ·by_cases hd:p.1∈bV L
   ·obtain⟨k,o,h1,h2⟩:=eY hd
    exact .inr ⟨k,o,h1,h2,nH listed c8 hr k (ai.1 h1).1⟩
   ·exact .inl hd
  ·rcases ql hq with hq|⟨r,h1,fG,rfl⟩
   ·exact ho.base q hq
   ·have h2:=ho.BN r h1 fG (by
     by_cases uz:r.a < L.length
     ·rw[oE (by omega)];exact nH listed c8 hr r.a uz
     ·simp[Array.getD,show ¬r.a < listed.size by omega])
    have:r.now listed=r.fin:=by
     unfold Rec.now Rec.fin
     split
     ·rename_i b cs hb
      rw[if_pos (nH listed c8 hr b (Wy r h1 b cs hb))]
     ·rfl
    rwa [this]at h2
 intro fuel
 induction fuel with
 |zero=>
  intro listed a w tm mm c8 hc hk ho hh
  have hr:Region.ready .any L.toArray listed=[]:=by
   rw[cW]
   intro j hj
   obtain⟨h1,o,h2,_⟩:=mem_ready.1 hj
   have eC:j < listed.size:=by rw[c8];simpa using(bu.1 h2).1
   have:listed[j]=false:=by simpa[Array.getD,eC]using h1
   have hm:false∈listed.toList.filter (!·):=by
    rw[cI];exact⟨by rw[←this];simp,rfl⟩
   have:=fB hm
   omega
  exact⟨hr,sw listed a w tm mm c8 hk ho hh hr⟩
 |succ fuel ih=>
  intro listed a w tm mm c8 hc hk ho hh
  refine⟨sw listed a w tm mm c8 hk ho hh,fun i hi=>?_⟩
  obtain⟨h1,o,h2,h3⟩:=mem_ready.1 hi
  have hL:L[i]? =some o:=by simpa using h2
  have vK:i < L.length:=(ai.1 hL).1
  have ng:i < listed.size:=by omega
  have j2:listed[i]=false:=by simpa[Array.getD,ng]using h1
  have lq:listed.getD i false=false:=by simpa[Array.getD,ng]using j2
  have yl:listed.getD i true=false:=by rw[oE ng];exact lq
  obtain⟨hw,_⟩:=gU b7 i o hL
  have sQ:∀j,j∈fz o.after.toList→listed.getD j false=true:=by
   have key:∀l:List Edge,(∀e∈l,e∈o.after)→∀j,j∈fz l→listed.getD j false=true:=by
    intro l
    induction l with
    |nil=>intro _ j h;simp[fz]at h
    |cons x l ih=>
     intro hl j h
     unfold fz at h
     split at h
     ·rename_i hb
      rcases ae.1 h with rfl|h
      ·exact h3 x (hl x ah) hb
      ·exact ih (fun e he=>hl e (ab _ he)) j h
     ·exact ih (fun e he=>hl e (ab _ he)) j h
   exact key _ (fun e he=>by simpa using he)
  have dp:eN L dc o tm:=by
   intro p hp hl
   refine hk p ⟨hp,?_⟩
   by_cases hd:p.1∈bV L
   ·obtain⟨k,o',k1,k2⟩:=eY hd
    have:=jq hw k o' p.1 k1 k2 hl
    exact .inr ⟨k,o',k1,k2,sQ k (by simpa using this)⟩
   ·exact .inl hd
  have iq:((listed.setIfInBounds i true).toList.filter (!·)).length≤fuel:=by
   have h5:((listed.setIfInBounds i true).toList.filter (!·)).length+1=(listed.toList.filter (!·)).length:=by
    rw[show(listed.setIfInBounds i true).toList=listed.toList.set i true by simp]
    exact count_set (by simp[ng,j2])
   omega
  have jY:(listed.setIfInBounds i true).size=L.length:=by simpa using c8
  have other:∀k,k≠i→(listed.setIfInBounds i true).getD k false=listed.getD k false:=fun k hk=>getD_set_ne false (Ne.symm hk)
  have fv:∀k,k≠i→(listed.setIfInBounds i true).getD k true=listed.getD k true:=fun k hk=>getD_set_ne true (Ne.symm hk)
  have Ol:∀r∈R,r.ar≠none→r.a≠i→∀d,o.dst=some d→r.d≠d:=fun r hr fG K7 d hd e=>K7 (Wx r hr fG i o hL (by rw[hd,e])).symm
  have yj:∀d s,o.dst=some d→(d,s)∈dc→∀p,nD L (listed.setIfInBounds i true) dc p→p∈(d,s)::bw tm d:=by
   intro d s e1 e2 p hp
   obtain⟨g1,g2⟩:=hp
   by_cases uA:p.1=d
   ·have:p=(d,s):=Cl p g1 (d,s) e2 uA
    rw[this];exact ah
   ·refine ab _ (cd (hk p ⟨g1,?_⟩) uA)
    rcases g2 with g2|⟨k,o',k1,k2,k3⟩
    ·exact .inl g2
    ·refine .inr ⟨k,o',k1,k2,?_⟩
     have kS:i≠k:=by
      intro e;subst e
      rw[hL]at k1;injection k1 with k1;subst k1
      rw[e1]at k2;injection k2 with k2;exact uA k2.symm
     rwa [getD_set_ne false kS]at k3
  have uB:∀r:Rec,(∀b cs,r.st=some (b,cs)→b≠i)→r.now (listed.setIfInBounds i true)=r.now listed:=by
   intro r hr
   unfold Rec.now
   split
   ·rename_i b cs hb;rw[other b (hr b cs hb)]
   ·rfl
  unfold wpOp
  simp only[cB,hL]
  have fin:∀{K:Prop} {W:Prop} [Decidable W] {A B:Prop},(if W then A else K)→(if W then A∨B else K):=by
   intro K W _ A B h
   split
   ·rename_i hw;rw[if_pos hw]at h;exact .inl h
   ·rename_i hw;rw[if_neg hw]at h;exact h
  refine fin ?_
  have Ix:∀(tm':TM) (mm':MM),(∀r∈R,r.ar≠none→(r.a≠i∧∀b cs,r.st=some (b,cs)→b≠i))→(∀r∈R,r.ar≠none→∀q,q∈mm→q.1=r.d→q∈mm')→
   (∀r∈R,r.ar≠none→r.a≠i→(r.d,ST.v (.one (.own r.d)))∈tm→(r.d,ST.v (.one (.own r.d)))∈tm')→
   ∀r∈R,∀e sz ys,r.ar=some (e,sz,ys)→(listed.setIfInBounds i true).getD r.a true=true→(∀b cs,r.st=some (b,cs)→(listed.setIfInBounds i true).getD b false=false)→(r.d,MO.arr false e sz ys)∈mm'∧(r.d,ST.v (.one (.own r.d)))∈tm':=by
   intro tm' mm' h1 h2 h3 r hr e sz ys fG hl hb
   have cj:r.ar≠none:=by rw[fG];exact fun h=>by cases h
   obtain⟨g1,g2⟩:=h1 r hr cj
   rw[fv _ g1]at hl
   obtain⟨k1,k2⟩:=ho.LI r hr e sz ys fG hl (fun b cs eu=>by rw[←other _ (g2 b cs eu)];exact hb b cs eu)
   exact⟨h2 r hr cj _ k1 J,h3 r hr cj g1 k2⟩
  have pB:∀d s,o.dst=some d→∀r∈R,r.ar≠none→r.a≠i→(r.d,ST.v (.one (.own r.d)))∈tm→(r.d,ST.v (.one (.own r.d)))∈(d,s)::bw tm d:=fun d s hd r hr fG K7 h=>
   ab _ (cd h (Ol r hr fG K7 d hd))
  cases hF i o hL with
  |val d s e1 e2 hr h=>
   refine h tm mm dp ho.base a w _ (QT C n P) hh (fun a' w' h'=>ih _ a' w' _ mm jY iq (yj d s e1 e2) ⟨ho.base,fun r gH fG hl=>?_,Ix _ _ (fun r ga _=>hr r ga) (fun r _ _ q hq _=>hq) (pB d s e1),fun r gH b cs eu hl=>?_,fun q hq=>?_,ho.Ph⟩ h')
   ·obtain⟨r1,r2⟩:=hr r gH
    rw[fv _ r1]at hl
    rw[uB r r2]
    exact ho.BN r gH fG hl
   ·rw[other _ ((hr r gH).2 b cs eu)]at hl
    rw[fv _ (hr r gH).1]
    exact ho.order r gH b cs eu hl
   ·rcases ho.only q hq with h|⟨r,g1,g2,g3⟩
    ·exact .inl h
    ·exact .inr ⟨r,g1,g2,by rw[fv _ (hr r g1).1];exact g3⟩
  |new d s r e1 e2 gH fG hz uz Bs o3 hr h=>
   have iA:∀q∈mm,q.1≠d:=by
    intro q hq e
    rcases ho.only q hq with(⟨q',g1,g2⟩|g0)|⟨r',g1,g2,g3⟩
    ·exact Ov r gH q' g1 (by rw[g2,e,Bs])
    ·exact g0 (by rw[e];exact eX (an hL) e1)
    ·have:r'=r:=F1 r' g1 r gH (by rw[g2,e,Bs])
     subst this
     rw[uz,yl]at g3;cases g3
   refine h tm mm dp iA a w _ (QT C n P) hh (fun a' w' h'=>ih _ a' w' _ _ jY iq (yj d s e1 e2) ⟨fun q hq=>ab _ (ho.base q hq),fun r' dn fD hl=>?_,Ix _ _ (fun r' ga fD=>?_) (fun r _ _ q hq _=>ab _ hq) (pB d s e1),fun r' dn b cs eu hl=>?_,fun q hq=>?_,fun r' dn fD q hq=>?_⟩ h')
   ·rcases hr r' dn with rfl|⟨g1,g2⟩
    ·rw[uB _ o3]
     have:r'.now listed=r'.zr:=by
      unfold Rec.now
      split
      ·rename_i b cs hb
       have CD:listed.getD b false=false:=by
        cases hv:listed.getD b false with
        |false=>rfl
        |true=>
         have:=ho.order r' gH b cs hb hv
         rw[uz,yl]at this;cases this
       rw[CD];simp
      ·rfl
     rw[this,Bs]
     exact ah
    ·rw[fv _ g1]at hl
     rw[uB r' g2]
     exact ab _ (ho.BN r' dn fD hl)
   ·rcases hr r' ga with rfl|g
    ·exact absurd fG fD
    ·exact g
   ·rcases hr r' dn with rfl|⟨g1,g2⟩
    ·rw[uz];exact dY ng
    ·rw[other _ (g2 b cs eu)]at hl
     rw[fv _ g1]
     exact ho.order r' dn b cs eu hl
   ·rcases ae.1 hq with rfl|hq
    ·exact .inr ⟨r,gH,Bs,by rw[uz];exact dY ng⟩
    ·rcases ho.only q hq with h|⟨r',g1,g2,g3⟩
     ·exact .inl h
     ·refine .inr ⟨r',g1,g2,?_⟩
      by_cases kS:r'.a=i
      ·rw[kS];exact dY ng
      ·rw[fv _ kS];exact g3
   ·rcases ae.1 hq with rfl|hq
    ·simp only[MO.bD,bt,not_exists,not_and]
     intro c hc
     rw[hz c hc];simp
    ·exact ho.Ph r' dn fD q hq
  |set r cs e1 gH fG eu uz hr K7 h=>
   have JB:listed.getD r.a true=true:=by
    rcases uz with uz|uz
    ·have h1:=sQ _ uz
     by_cases bo:r.a < listed.size
     ·rw[oE bo];exact h1
     ·simp[Array.getD,bo]
    ·simp[Array.getD,show ¬r.a < listed.size by omega]
   have eL:=ho.BN r gH fG JB
   have Vp:r.now listed=r.zr:=by
    unfold Rec.now
    rw[eu]
    simp[lq]
   rw[Vp]at eL
   have SR:∀q∈mm,q.1≠r.d→q∈cK mm r.d (.box cs):=fun q hq cj=>(nA (.inr ⟨hq,cj⟩))
   refine h tm mm dp eL a w _ (QT C n P) hh (fun a' w' h'=>ih _ a' w' tm _ jY iq (fun p hp=>hk p ⟨hp.1,?_⟩) ⟨fun q hq=>SR q (ho.base q hq) (Ov r gH q hq),fun r' dn fD hl=>?_,Ix _ _ (fun r' ga fD=>?_) (fun r' ga fD q hq e=>SR q hq (fun e'=>?_)) (fun _ _ _ _ h=>h),fun r' dn b sA HX hl=>?_,fun q hq=>?_,fun r' dn fD q hq=>?_⟩ h')
   ·rcases hp.2 with g2|⟨k,o',k1,k2,k3⟩
    ·exact .inl g2
    ·have kS:k≠i:=by
      intro e;subst e
      rw[hL]at k1;injection k1 with k1;subst k1
      rw[e1]at k2;cases k2
     exact .inr ⟨k,o',k1,k2,by rwa [other k kS]at k3⟩
   ·rcases hr r' dn with rfl|⟨g1,g2⟩
    ·have:r'.now (listed.setIfInBounds i true)=cs:=by
      unfold Rec.now
      rw[eu]
      simp only[gZ ng,if_true]
     rw[this]
     exact nA (.inl ⟨rfl,_,eL,rfl⟩)
    ·rw[fv _ g1]at hl
     rw[uB r' g2]
     refine SR _ (ho.BN r' dn fD hl) (fun e=>?_)
     have:=F1 r' dn r gH e
     subst this
     exact(g2 i cs eu) J
   ·rcases hr r' ga with rfl|g
    ·exact absurd fG fD
    ·exact g
   ·have:=F1 r' ga r gH (by rw[←e,e'])
    subst this
    exact fD fG
   ·rcases hr r' dn with rfl|⟨g1,g2⟩
    ·rw[fv _ K7];exact JB
    ·rw[other _ (g2 b sA HX)]at hl
     rw[fv _ g1]
     exact ho.order r' dn b sA HX hl
   ·have pO:∃q'∈mm,q'.1=q.1:=by
     rcases cq q hq with⟨rfl,q',dX,he⟩|⟨hq,_⟩
     ·exact⟨q',dX,he⟩
     ·exact⟨q,hq,rfl⟩
    obtain⟨q',FT,Qt⟩:=pO
    rw[←Qt]
    rcases ho.only q' FT with h|⟨r',g1,g2,g3⟩
    ·exact .inl h
    ·refine .inr ⟨r',g1,g2,?_⟩
     by_cases kS:r'.a=i
     ·rw[kS];exact dY ng
     ·rw[fv _ kS];exact g3
   ·rcases cq q hq with⟨rfl,_⟩|⟨hq,_⟩
    ·have:=WB r gH fG r' dn fD
     unfold Rec.fin at this
     rw[eu]at this
     exact this
    ·exact ho.Ph r' dn fD q hq
  |mk d r e sz ys e1 e2 gH fG uz Bs o3 hr h=>
   have iA:∀q∈mm,q.1≠d:=by
    intro q hq e
    rcases ho.only q hq with(⟨q',g1,g2⟩|g0)|⟨r',g1,g2,g3⟩
    ·exact Ov r gH q' g1 (by rw[g2,e,Bs])
    ·exact g0 (by rw[e];exact eX (an hL) e1)
    ·have:r'=r:=F1 r' g1 r gH (by rw[g2,e,Bs])
     subst this
     rw[uz,yl]at g3;cases g3
   have cj:r.ar≠none:=by rw[fG];exact fun h=>by cases h
   refine h tm mm dp iA a w _ (QT C n P) hh (fun a' w' h'=>?_)
   have WM:Has C n ((d,.v (.one .any))::(d,.v (.one (.own d)))::bw tm d) ((d,.arr false e sz ys)::mm) a' w':=by
    obtain⟨H,Z,hm⟩:=h'
    refine⟨H,Z,{hm with tmps:=fun p hp=>?_}⟩
    rcases ae.1 hp with rfl|hp
    ·trivial
    ·exact hm.tmps p hp
   refine ih _ a' w' _ _ jY iq (fun p hp=>?_) ⟨fun q hq=>ab _ (ho.base q hq),fun r' dn fD hl=>?_,fun r' dn e' Sk Sj fD hl hb=>?_,fun r' dn b cs eu hl=>?_,fun q hq=>?_,fun r' dn fD q hq=>?_⟩ WM
   ·rcases ae.1 (yj d _ e1 e2 p hp)with rfl|oA
    ·exact ah
    ·exact ab _ (ab _ oA)
   ·rcases hr r' dn with rfl|⟨g1,g2⟩
    ·exact absurd fD cj
    ·rw[fv _ g1]at hl
     rw[uB r' g2]
     exact ab _ (ho.BN r' dn fD hl)
   ·rcases hr r' dn with rfl|⟨g1,g2⟩
    ·rw[fG]at fD
     injection fD with fD
     injection fD with q1 q2
     injection q2 with q2 q3
     subst q1 q2 q3
     rw[Bs]
     exact⟨ah,ab _ ah⟩
    ·rw[fv _ g1]at hl
     have N6:r'.ar≠none:=by rw[fD];exact fun h=>by cases h
     obtain⟨k1,k2⟩:=ho.LI r' dn e' Sk Sj fD hl (fun b cs eu=>by rw[←other _ (g2 b cs eu)];exact hb b cs eu)
     exact⟨ab _ k1,ab _ (ab _ (cd k2 (Ol r' dn N6 g1 d e1)))⟩
   ·rcases hr r' dn with rfl|⟨g1,g2⟩
    ·rw[uz];exact dY ng
    ·rw[other _ (g2 b cs eu)]at hl
     rw[fv _ g1]
     exact ho.order r' dn b cs eu hl
   ·rcases ae.1 hq with rfl|hq
    ·exact .inr ⟨r,gH,Bs,by rw[uz];exact dY ng⟩
    ·rcases ho.only q hq with h|⟨r',g1,g2,g3⟩
     ·exact .inl h
     ·refine .inr ⟨r',g1,g2,?_⟩
      by_cases kS:r'.a=i
      ·rw[kS];exact dY ng
      ·rw[fv _ kS];exact g3
   ·rcases ae.1 hq with rfl|hq
    ·simp[MO.bD]
    ·exact ho.Ph r' dn fD q hq
  |take d s r e sz ys e1 e2 gH fG eu uz hr K7 h=>
   have cj:r.ar≠none:=by rw[fG];exact fun h=>by cases h
   have JB:listed.getD r.a true=true:=by
    rw[oE (by rw[c8];exact Wz r gH cj)]
    exact sQ _ uz
   obtain⟨Tu,Tt⟩:=ho.LI r gH e sz ys fG JB (fun b cs hb=>by
    rw[eu]at hb;injection hb with hb;injection hb with hb;rw[←hb];exact lq)
   have TP:∀q∈mm,q.1≠r.d→q∈MJ r.d mm:=fun q hq cj=>cI.2 ⟨hq,by simpa using cj⟩
   have vh:∀p∈tm,p.1≠d→r.d∉p.2.bD→p∈MI d r.d tm:=fun p hp h1 h2=>cI.2 ⟨hp,by simp[h1,h2]⟩
   refine h tm mm dp Tt Tu (ho.Ph r gH cj) a w _ (QT C n P) hh (fun a' w' h'=>ih _ a' w' _ _ jY iq (fun p hp=>?_) ⟨fun q hq=>TP q (ho.base q hq) (Ov r gH q hq),fun r' dn fD hl=>?_,fun r' dn e' Sk Sj fD hl hb=>?_,fun r' dn b cs HX hl=>?_,fun q hq=>?_,fun r' dn fD q hq=>ho.Ph r' dn fD q (cI.1 hq).1⟩ h')
   ·rcases ae.1 (yj d s e1 e2 p hp)with rfl|oA
    ·exact ah
    ·obtain⟨k1,k2⟩:=b4 oA
     exact ab _ (vh p k1 k2 (WI p hp.1 r gH cj))
   ·rcases hr r' dn with rfl|⟨g1,g2⟩
    ·exact absurd fD cj
    ·rw[fv _ g1]at hl
     rw[uB r' g2]
     refine TP _ (ho.BN r' dn fD hl) (fun e=>?_)
     have:=F1 r' dn r gH e
     subst this
     exact cj fD
   ·rcases hr r' dn with rfl|⟨g1,g2⟩
    ·have:=hb i [] eu
     rw[gZ ng]at this;cases this
    ·rw[fv _ g1]at hl
     have N6:r'.ar≠none:=by rw[fD];exact fun h=>by cases h
     obtain⟨k1,k2⟩:=ho.LI r' dn e' Sk Sj fD hl (fun b cs eu=>by rw[←other _ (g2 b cs eu)];exact hb b cs eu)
     have UZ:r'.d≠r.d:=fun e=>by
      have:=F1 r' dn r gH e
      subst this
      exact(g2 i [] eu) J
     exact⟨TP _ k1 UZ,ab _ (vh _ k2 (Ol r' dn N6 g1 d e1) (by simp[ST.bD,SV.bD,SC.bD];exact fun e=>UZ e.symm))⟩
   ·rcases hr r' dn with rfl|⟨g1,g2⟩
    ·rw[fv _ K7];exact JB
    ·rw[other _ (g2 b cs HX)]at hl
     rw[fv _ g1]
     exact ho.order r' dn b cs HX hl
   ·rcases ho.only q (cI.1 hq).1 with h|⟨r',g1,g2,g3⟩
    ·exact .inl h
    ·refine .inr ⟨r',g1,g2,?_⟩
     by_cases kS:r'.a=i
     ·rw[kS];exact dY ng
     ·rw[fv _ kS];exact g3
end
end Go.Sy
namespace Go.Sy
open Go.RowKit
def mX(d i:Nat)(cs:List SC)(r:Rec):Rec:=
 match Nat.beq r.d d with
 |true=>match r.st with
  |none=>⟨r.a,r.d,r.zr,some (i,cs),r.ar⟩
  |some _=>r
 |false=>r
theorem ju(d i:Nat)(cs:List SC)(r:Rec):(mX d i cs r).a=r.a∧(mX d i cs r).d=r.d∧(mX d i cs r).zr=r.zr∧(mX d i cs r).ar=r.ar∧
 ((mX d i cs r).st=r.st∨(r.st=none∧(mX d i cs r).st=some (i,cs)))∧(∀x,r.st=some x→mX d i cs r=r)∧(r.d=d→r.st=none→(mX d i cs r).st=some (i,cs))∧(r.d≠d→mX d i cs r=r):=by
 obtain⟨a,e,zr,st,ar⟩:=r
 unfold mX
 cases hb:Nat.beq e d with
 |true=>
  have he:e=d:=aR hb
  cases st<;>simp[he]
 |false=>
  have cj:e≠d:=fun e'=>by subst e';simp at hb
  simp[cj]
def ze(d i:Nat)(cs:List SC):List Rec→List Rec
 |[]=>[]
 |r::l=>mX d i cs r::ze d i cs l
theorem zd(d i:Nat)(cs:List SC):∀l,ze d i cs l=l.map (mX d i cs)
 |[]=>rfl
 |r::l=>by simp[ze,zd d i cs l]
def xf(d:Nat):List Rec→Option Rec
 |[]=>none
 |r::l=>match Nat.beq r.d d with
  |true=>some r
  |false=>xf d l
theorem uP{d:Nat}{r:Rec}:∀{l:List Rec},xf d l=some r→r∈l∧r.d=d
 |[],h=>by simp[xf]at h
 |a::l,h=>by
  unfold xf at h
  split at h
  ·rename_i hb;injection h with h;subst h;exact⟨ah,aR hb⟩
  ·obtain⟨h1,h2⟩:=uP h;exact⟨ab _ h1,h2⟩
section
variable {C:Ctx} {n:Nat} {eh:MM} {L:List Oper} {cp tm:TM} {l:List Oper} {T:TM→MM→Prop} {o:Oper} {d i j:Nat} {s:ST} {R:List Rec}
theorem eN.back(hl:d∉aK L o){tm':TM}(h:eN L ((d,s)::bw tm d) o tm'):eN L tm o tm':=
 fun p hp mZ=>h p (ab _ (cd hp fun e=>hl (e▸mZ))) mZ
theorem F4.grow(h:F4 C n eh L tm R j o)(hd:o.dst≠some d)(hl:d∉aK L o):F4 C n eh L ((d,s)::bw tm d) R j o:=by
 cases h with
 |val d' s' e1 e2 hr h=>exact .val d' s' e1 (ab _ (cd e2 fun e=>hd (e▸e1))) hr fun tm' mm' hL=>h tm' mm' (hL.back hl)
 |new d' s' r e1 e2 h3 fG hz h4 h5 h6 h7 h=>exact .new d' s' r e1 (ab _ (cd e2 fun e=>hd (e▸e1))) h3 fG hz h4 h5 h6 h7 fun tm' mm' hL=>h tm' mm' (hL.back hl)
 |set r cs e1 h2 fG h3 h4 h5 h6 h=>exact .set r cs e1 h2 fG h3 h4 h5 h6 fun tm' mm' hL=>h tm' mm' (hL.back hl)
 |mk d' r e sz ys e1 e2 h3 fG h4 h5 h6 h7 h=>exact .mk d' r e sz ys e1 (ab _ (cd e2 fun e=>hd (e▸e1))) h3 fG h4 h5 h6 h7 fun tm' mm' hL=>h tm' mm' (hL.back hl)
 |take d' s' r e sz ys e1 e2 h3 fG h4 h5 h6 h7 h=>exact .take d' s' r e sz ys e1 (ab _ (cd e2 fun e=>hd (e▸e1))) h3 fG h4 h5 h6 h7 fun tm' mm' hL=>h tm' mm' (hL.back hl)
theorem F4.cons(h:F4 C n eh L tm R j o){r0:Rec}(ha:r0.a≠j)(hs:r0.st=none):F4 C n eh L tm (r0::R) j o:=by
 have key:r0.a≠j∧∀b cs,r0.st=some (b,cs)→b≠j:=⟨ha,fun b cs h=>by rw[hs]at h;cases h⟩
 cases h with
 |val d' s' e1 e2 hr h=>exact .val d' s' e1 e2 (fun r ga=>(ae.1 ga).elim (fun e=>e▸key) (hr r)) h
 |new d' s' r e1 e2 h3 fG hz h4 h5 h6 h7 h=>exact .new d' s' r e1 e2 (ab _ h3) fG hz h4 h5 h6 (fun r ga=>(ae.1 ga).elim (fun e=>.inr (e▸key)) (h7 r)) h
 |set r cs e1 h2 fG h3 h4 h5 h6 h=>exact .set r cs e1 (ab _ h2) fG h3 h4 (fun r ga=>(ae.1 ga).elim (fun e=>.inr (e▸key)) (h5 r)) h6 h
 |mk d' r e sz ys e1 e2 h3 fG h4 h5 h6 h7 h=>exact .mk d' r e sz ys e1 e2 (ab _ h3) fG h4 h5 h6 (fun r ga=>(ae.1 ga).elim (fun e=>.inr (e▸key)) (h7 r)) h
 |take d' s' r e sz ys e1 e2 h3 fG h4 h5 h6 h7 h=>exact .take d' s' r e sz ys e1 e2 (ab _ h3) fG h4 h5 (fun r ga=>(ae.1 ga).elim (fun e=>.inr (e▸key)) (h6 r)) h7 h
theorem F4.SE(h:F4 C n eh L tm R j o){cs:List SC}(j1:i≠j):F4 C n eh L tm (R.map (mX d i cs)) j o:=by
 have keep:∀r:Rec,(r.a≠j∧∀b sA,r.st=some (b,sA)→b≠j)→((mX d i cs r).a≠j∧∀b sA,(mX d i cs r).st=some (b,sA)→b≠j):=by
  intro r ⟨h1,h2⟩
  obtain⟨k1,k2,k3,_,k4,_⟩:=ju d i cs r
  refine⟨by rw[k1];exact h1,fun b sA hb=>?_⟩
  rcases k4 with k4|⟨_,k4⟩
  ·rw[k4]at hb;exact h2 b sA hb
  ·rw[k4]at hb;injection hb with hb;injection hb with hb;rw[←hb];exact j1
 cases h with
 |val d' s' e1 e2 hr h=>exact .val d' s' e1 e2 (fun r ga=>by obtain⟨r1,h1,rfl⟩:=aE.1 ga;exact keep r1 (hr r1 h1)) h
 |new d' s' r e1 e2 h3 fG hz h4 h5 h6 h7 h=>
  obtain⟨k1,k2,k3,NF,k4,_⟩:=ju d i cs r
  refine .new d' s' (mX d i cs r) e1 e2 (bQ h3) (by rw[NF];exact fG) (by rw[k3];exact hz) (by rw[k1];exact h4) (by rw[k2];exact h5) ?_ ?_ (by rw[k3];exact h)
  ·intro b sA hb
   rcases k4 with k4|⟨_,k4⟩
   ·rw[k4]at hb;exact h6 b sA hb
   ·rw[k4]at hb;injection hb with hb;injection hb with hb;rw[←hb];exact j1
  ·intro r' ga
   obtain⟨r1,h1,rfl⟩:=aE.1 ga
   rcases h7 r1 h1 with rfl|h8
   ·exact .inl rfl
   ·exact .inr (keep r1 h8)
 |set r sA e1 h2 fG h3 h4 h5 h6 h=>
  obtain⟨k1,k2,k3,NF,k4,k5,_⟩:=ju d i cs r
  have hk:=k5 _ h3
  refine .set r sA e1 (by rw[←hk];exact bQ h2) fG h3 h4 ?_ h6 h
  intro r' ga
  obtain⟨r1,h1,rfl⟩:=aE.1 ga
  rcases h5 r1 h1 with rfl|h8
  ·exact .inl hk
  ·exact .inr (keep r1 h8)
 |mk d' r e sz ys e1 e2 h3 fG h4 h5 h6 h7 h=>
  obtain⟨k1,k2,k3,NF,k4,_⟩:=ju d i cs r
  refine .mk d' (mX d i cs r) e sz ys e1 e2 (bQ h3) (by rw[NF];exact fG) (by rw[k1];exact h4) (by rw[k2];exact h5) ?_ ?_ h
  ·intro b sA hb
   rcases k4 with k4|⟨_,k4⟩
   ·rw[k4]at hb;exact h6 b sA hb
   ·rw[k4]at hb;injection hb with hb;injection hb with hb;rw[←hb];exact j1
  ·intro r' ga
   obtain⟨r1,h1,rfl⟩:=aE.1 ga
   rcases h7 r1 h1 with rfl|h8
   ·exact .inl rfl
   ·exact .inr (keep r1 h8)
 |take d' s' r e sz ys e1 e2 h3 fG eu h4 h5 h6 h=>
  obtain⟨k1,k2,k3,NF,k4,k5,_⟩:=ju d i cs r
  have hk:=k5 _ eu
  refine .take d' s' r e sz ys e1 e2 (by rw[←hk];exact bQ h3) fG eu h4 ?_ h6 h
  intro r' ga
  obtain⟨r1,h1,rfl⟩:=aE.1 ga
  rcases h5 r1 h1 with rfl|h8
  ·exact .inl hk
  ·exact .inr (keep r1 h8)
structure ES(C:Ctx)(n:Nat)(eh:MM)(L:List Oper)(cp:TM)(te:Nat→List SC→Prop)(ahead l:List Oper)(i:Nat)(tm:TM)(R:List Rec):Prop where
 ok:∀(j:Nat) (o:Oper),j < i→L[j]? =some o→F4 C n eh L tm R j o
 keys:∀p∈tm,∀q∈tm,p.1=q.1→p=q
 base:∀p∈tm,p.1∉bV L→p∈cp
 FO:kX L ahead l i=true
 whole:L=ahead.reverse++l
 len:ahead.length=i
 rd:∀r∈R,∀r'∈R,r.d=r'.d→r=r'
 r0:∀r∈R,∀q∈eh,q.1≠r.d
 rl:∀r∈R,(r.a < i∨L.length≤r.a)∧∀b cs,r.st=some (b,cs)→b < i
 M5:∀r∈R,(∃o∈ahead,o.dst=some r.d)∨r.d∉bV L
 Pd:∀r∈R,r.ar≠none→∃o,L[r.a]? =some o∧o.dst=some r.d
 JX:∀r∈R,L.length≤r.a→te r.d r.zr
def EOps(C:Ctx)(n:Nat)(eh:MM)(L:List Oper)(cp:TM)(i:Nat)(l:List Oper)(tm:TM)(R:List Rec)(T:TM→MM→Prop):Prop:=
 ∀(te:Nat→List SC→Prop) (ahead:List Oper),ES C n eh L cp te ahead l i tm R→∃dc RF,T dc (lS RF eh)∧Km (lS RF eh) dc=true∧x3 (lS RF eh) (lS RF eh)=true∧ES C n eh L cp te L.reverse [] L.length dc RF
theorem EOps.nil(h:T tm (lS R eh))(h1:Km (lS R eh) tm=true)(h2:x3 (lS R eh) (lS R eh)=true):EOps C n eh L cp i [] tm R T:=fun te ahead hs=>by
 have hL:L=ahead.reverse:=by have:=hs.whole;rwa [cV]at this
 have hi:i=L.length:=by rw[hL,dE,hs.len]
 have ha:ahead=L.reverse:=by rw[hL,List.reverse_reverse]
 subst hi
 rw[←ha]at *
 exact⟨tm,R,h,h1,h2,ha▸hs⟩
theorem ES.cur{te:Nat→List SC→Prop}{ahead:List Oper}(hs:ES C n eh L cp te ahead (o::l) i tm R):L[i]? =some o:=by
 have h1:=hs.whole
 have h2:ahead.reverse.length=i:=by rw[dE,hs.len]
 rw[h1,aO (by omega)]
 simp[h2]
theorem ES.before{te:Nat→List SC→Prop}{ahead:List Oper}(hs:ES C n eh L cp te ahead (o::l) i tm R){o':Oper}(hj:j < i)(h:L[j]? =some o'):o'∈ahead:=by
 have h1:=hs.whole
 have h2:ahead.reverse.length=i:=by rw[dE,hs.len]
 rw[h1,aG (by omega)]at h
 simpa using an h
theorem ES.next{te:Nat→List SC→Prop}{ahead:List Oper}(hs:ES C n eh L cp te ahead (o::l) i tm R)(hd:o.dst=some d){R':List Rec}(hR:R'=R∨∃zr ar,R'=⟨i,d,zr,none,ar⟩::R∧∀q∈eh,q.1≠d)
 (b7:d∉aK L o→(∀r∈R,r.d≠d)→F4 C n eh L ((d,s)::bw tm d) R' i o):
 ES C n eh L cp te (o::ahead) l (i+1) ((d,s)::bw tm d) R':=by
 obtain⟨h2,h3,h4,h5⟩:=gv hs.FO
 obtain⟨h6,h7⟩:=h5 d hd
 have eL:o∈L:=by rw[hs.whole];simp
 have F1:∀r∈R,r.d≠d:=fun r hr e=>by
  rcases hs.M5 r hr with⟨o',dX,F0⟩|hn
  ·exact(eD h6 o' dX).1 (by rw[F0,e])
  ·exact hn (by rw[e];exact eX eL hd)
 have vK:i < L.length:=(ai.1 hs.cur).1
 refine⟨fun j o' hj dX=>?_,lW hs.keys,fun p hp hn=>?_,h4,by rw[hs.whole];simp,by simp[hs.len],?_,?_,?_,?_,?_,?_⟩
 ·by_cases jc:j=i
  ·subst jc
   rw[hs.cur]at dX;injection dX with dX;subst dX
   exact b7 h7 F1
  ·have eC:j < i:=by omega
   obtain⟨k1,k2⟩:=eD h6 o' (hs.before eC dX)
   have:=(hs.ok j o' eC dX).grow (s:=s) k1 k2
   rcases hR with rfl|⟨zr,ar,rfl,_⟩
   ·exact this
   ·exact this.cons (fun e=>jc e.symm) J
 ·rcases ae.1 hp with rfl|hp
  ·exact absurd (eX eL hd) hn
  ·exact hs.base p (b4 hp).1 hn
 ·rcases hR with rfl|⟨zr,ar,rfl,_⟩
  ·exact hs.rd
  ·intro r hr r' ga e
   rcases ae.1 hr with rfl|hr<;>rcases ae.1 ga with rfl|ga
   ·rfl
   ·exact absurd e.symm (F1 r' ga)
   ·exact absurd e (F1 r hr)
   ·exact hs.rd r hr r' ga e
 ·rcases hR with rfl|⟨zr,ar,rfl,h0⟩
  ·exact hs.r0
  ·intro r hr
   rcases ae.1 hr with rfl|hr
   ·exact h0
   ·exact hs.r0 r hr
 ·have key:∀r∈R,(r.a < i+1∨L.length≤r.a)∧∀b cs,r.st=some (b,cs)→b < i+1:=fun r hr=>⟨(hs.rl r hr).1.imp jg id,fun b cs h=>jg ((hs.rl r hr).2 b cs h)⟩
  rcases hR with rfl|⟨zr,ar,rfl,h0⟩
  ·exact key
  ·intro r hr
   rcases ae.1 hr with rfl|hr
   ·exact⟨.inl (Nat.lt_succ_self _),fun b cs h=>by cases h⟩
   ·exact key r hr
 ·have key:∀r∈R,(∃o'∈o::ahead,o'.dst=some r.d)∨r.d∉bV L:=fun r hr=>(hs.M5 r hr).imp (fun⟨o',h1,h2⟩=>⟨o',ab _ h1,h2⟩) id
  rcases hR with rfl|⟨zr,ar,rfl,h0⟩
  ·exact key
  ·intro r hr
   rcases ae.1 hr with rfl|hr
   ·exact .inl ⟨o,ah,hd⟩
   ·exact key r hr
 ·rcases hR with rfl|⟨zr,ar,rfl,h0⟩
  ·exact hs.Pd
  ·intro r hr fG
   rcases ae.1 hr with rfl|hr
   ·exact⟨o,hs.cur,hd⟩
   ·exact hs.Pd r hr fG
 ·rcases hR with rfl|⟨zr,ar,rfl,h0⟩
  ·exact hs.JX
  ·intro r hr hle
   rcases ae.1 hr with rfl|hr
   ·exact absurd hle (Nat.not_le.2 vK)
   ·exact hs.JX r hr hle
theorem ES.other{te:Nat→List SC→Prop}{ahead:List Oper}(hs:ES C n eh L cp te ahead (o::l) i tm R):∀r∈R,r.a≠i∧∀b cs,r.st=some (b,cs)→b≠i:=
 fun r hr=>⟨by
  have h1:=(ai.1 hs.cur).1
  have:=(hs.rl r hr).1
  omega,fun b cs h=>Nat.ne_of_lt ((hs.rl r hr).2 b cs h)⟩
theorem ez{b:Bool}(h:bp L (bg (aK L o) tm) o=some b){tm':TM}(hs:eN L tm o tm'){mm':MM}{a:Act}{w:World}(hh:Has C n tm' mm' a w):
 Region.wanted o (yielded L.toArray a.tmps)=b:=nL h hs hh
theorem EOps.step(hg:bp L (bg (aK L o) tm) o=some true)
 (h:∀mm',(∀q∈eh,q∈mm')→(∀p∈mm',∀q∈mm',p.1=q.1→p=q)→JH C n mm' o (bg (aK L o) tm) d s)(hd:o.dst=some d)
 (k:EOps C n eh L cp (i+1) l ((d,s)::bw tm d) R T):EOps C n eh L cp i (o::l) tm R T:=fun te ahead hs=>
 k _ _ (hs.next hd (.inl rfl) fun hl _=>.val d s hd ah hs.other fun tm' mm' hL hb a w K Q hh hK=>by
   have ym:eN L tm o tm':=hL.back hl
   rw[if_pos (ez hg ym hh)]
   exact(h mm' hb (nK hh)).2 tm' (fun p hp=>ym p (cQ.1 hp).1 (cQ.1 hp).2) a w K Q hh hK)
theorem EOps.skip(hg:bp L (bg (aK L o) tm) o=some false)(hd:o.dst=some d)(hn:Nat.blt d n=true)
 (k:EOps C n eh L cp (i+1) l ((d,.gE [])::bw tm d) R T):EOps C n eh L cp i (o::l) tm R T:=fun te ahead hs=>
 k _ _ (hs.next hd (.inl rfl) fun hl _=>.val d _ hd ah hs.other fun tm' mm' hL hb a w K Q hh hK=>by
   have ym:eN L tm o tm':=hL.back hl
   rw[if_neg (by rw[ez hg ym hh];simp)]
   obtain⟨H,Z,hm⟩:=hh
   rw[hd]
   exact hK _ _ ⟨H,Z,hm.BD (aY.mp hn) ⟨#[],rfl,rfl,fun j c hc=>by simp at hc⟩⟩)
theorem EOps.alloc{Θ:dD}(bI:bz C.P Θ){e:TypeId}{z dG:Nat}{ag:Bool}{zr:List CT}{sh:Sh}(hg:bp L (bg (aK L o) tm) o=some true)(ho:o.op=.alloc e)
 (ht:aZ Θ e=some ⟨z,dG,ag,some zr,sh⟩)(hd:o.dst=some d)(hn:Nat.blt d n=true)(iA:iW eh d=false)
 (k:EOps C n eh L cp (i+1) l ((d,.v (.one (.ptr d 0)))::bw tm d) (⟨i,d,zr.map SC.c,none,none⟩::R) T):EOps C n eh L cp i (o::l) tm R T:=fun te ahead hs=>by
 have yO:=fc iA
 refine k _ _ (hs.next hd (.inr ⟨_,_,rfl,fun q hq e=>yO ⟨q,hq,e⟩⟩) fun hl F1=>?_)
 refine .new d _ ⟨i,d,zr.map SC.c,none,none⟩ hd ah ah rfl (fun c hc=>by obtain⟨x,_,rfl⟩:=aE.1 hc;rfl) J J (fun b cs h=>by cases h) (fun r' ga=>?_) fun tm' mm' hL hf a w K Q hh hK=>?_
 ·rcases ae.1 ga with rfl|ga
  ·exact .inl rfl
  ·exact .inr (hs.other r' ga)
 ·have ym:eN L tm o tm':=hL.back hl
  rw[if_pos (ez hg ym hh)]
  have lZ:getM mm' d=none:=by
   cases Oj:getM mm' d with
   |none=>rfl
   |some x=>exact absurd J (hf _ (aN Oj))
  exact(zO bI ho ht lZ hd hn).wp a w K Q hh hK
theorem mc{l r:TM}{x:Operand}{s:SC}(h:aW l x=some s):aW (l++r) x=some s:=by
 unfold aW at h⊢
 split at h
 ·rename_i hs;rw[xg hs];exact h
 ·cases h
theorem EOps.store{Θ:dD}(bI:bz C.P Θ){t:TypeId}{ti:gD}{x y:Operand}{r:Rec}{cs:List SC}{v:SV}(hg:bp L (bg (aK L o) tm) o=some true)(ho:o.op=.store t x y)
 (ht:aZ Θ t=some ti)(hx:aW (bg (aK L o) tm) x=some (.ptr d 0))(hf:xf d R=some r)(eu:r.st=none)(fG:r.ar=none)(R7:(fw (fz o.after.toList) r.a||Nat.ble L.length r.a)=true)
 (hy:dM (bg (aK L o) tm) y=some v)(hk:v.cells.all SC.known=true)(c8:Nat.beq v.cells.length ti.size=true)(FQ:gq r.zr 0 v.cells=some cs)(hd:o.dst=none)
 (k:EOps C n eh L cp (i+1) l tm (ze d i cs R) T):EOps C n eh L cp i (o::l) tm R T:=fun te ahead hs=>by
 obtain⟨h2,h3,h4,h5⟩:=gv hs.FO
 obtain⟨f1,f2⟩:=uP hf
 rw[zd]at k
 obtain⟨k1,k2,k3,NF,k4,_,k6,_⟩:=ju d i cs r
 have ss:=fun r=>ju d i cs r
 have TY:r.a∈fz o.after.toList∨L.length≤r.a:=by
  rw[iK]at R7
  exact R7.imp cz.1 fR.mp
 refine k _ _ ⟨fun j o' hj dX=>?_,hs.keys,hs.base,h4,by rw[hs.whole];simp,by simp[hs.len],?_,?_,?_,?_,?_,?_⟩
 ·by_cases jc:j=i
  ·subst jc
   rw[hs.cur]at dX;injection dX with dX;subst dX
   refine .set (mX d j cs r) cs hd (bQ f1) (by rw[NF];exact fG) (k6 f2 eu) (by rw[k1];exact TY) (fun r' ga=>?_) (by rw[k1];exact(hs.other r f1).1) fun tm' mm' hL eL a w K Q hh hK=>?_
   ·obtain⟨r1,g1,rfl⟩:=aE.1 ga
    by_cases Bs:r1.d=d
    ·have:r1=r:=hs.rd r1 g1 r f1 (by rw[Bs,f2])
     exact .inl (by rw[this])
    ·obtain⟨_,_,_,_,_,_,_,g7⟩:=ss r1
     rw[g7 Bs]
     exact .inr (hs.other r1 g1)
   ·rw[if_pos (ez hg hL hh)]
    rw[k2,k3]at eL
    rw[k2]at hK
    have jN:=sx (nK hh) eL
    rw[f2]at jN hK
    have dQ:=(mz (C:=C) (n:=n) (tm:=bg (aK L o) tm++tm') bI ho ht (mc hx) jN (oG hy) hk c8 FQ hd).wp
    refine dQ a w K Q (hh.lA fun p hp=>(aQ.1 hp).elim (fun hp=>hL p (cQ.1 hp).1 (cQ.1 hp).2) id) fun a' w' h'=>hK a' w' (h'.lA fun p hp=>b8 _ hp)
  ·have eC:j < i:=by omega
   exact(hs.ok j o' eC dX).SE (fun e=>jc e.symm)
 ·intro a ha b hb e
  obtain⟨a1,g1,rfl⟩:=aE.1 ha
  obtain⟨b1,g2,rfl⟩:=aE.1 hb
  rw[(ss a1).2.1,(ss b1).2.1]at e
  rw[hs.rd a1 g1 b1 g2 e]
 ·intro a ha
  obtain⟨a1,g1,rfl⟩:=aE.1 ha
  rw[(ss a1).2.1]
  exact hs.r0 a1 g1
 ·intro a ha
  obtain⟨a1,g1,rfl⟩:=aE.1 ha
  obtain⟨q1,_,_,_,q4,_⟩:=ss a1
  refine⟨by rw[q1];exact(hs.rl a1 g1).1.imp jg id,fun b sA hb=>?_⟩
  rcases q4 with q4|⟨_,q4⟩
  ·rw[q4]at hb;exact jg ((hs.rl a1 g1).2 b sA hb)
  ·rw[q4]at hb;injection hb with hb;injection hb with hb;omega
 ·intro a ha
  obtain⟨a1,g1,rfl⟩:=aE.1 ha
  rw[(ss a1).2.1]
  exact(hs.M5 a1 g1).imp (fun⟨o',q1,q2⟩=>⟨o',ab _ q1,q2⟩) id
 ·intro a ha fD
  obtain⟨a1,g1,rfl⟩:=aE.1 ha
  obtain⟨q1,q2,_,Vh,_⟩:=ss a1
  rw[Vh]at fD
  rw[q1,q2]
  exact hs.Pd a1 g1 fD
 ·intro a ha hle
  obtain⟨a1,g1,rfl⟩:=aE.1 ha
  obtain⟨q1,q2,q3,_⟩:=ss a1
  rw[q1]at hle
  rw[q2,q3]
  exact hs.JX a1 g1 hle
theorem sl{d:Nat}{o:Oper}(hd:o.dst=some d):∀{l ahead:List Oper} {i:Nat},kX L ahead l i=true→∀(k:Nat),l[k]? =some o→∀o'∈ahead,o'.dst≠some d
 |[],_,_,_,k,ho,_,_=>by simp at ho
 |x::l,ahead,i,h,k,ho,o',dX=>by
  obtain⟨_,_,h3,h4⟩:=gv h
  cases k with
  |zero=>simp at ho;subst ho;exact(eD (h4 d hd).1 o' dX).1
  |succ k=>exact sl hd h3 k (by simpa using ho) o' (ab _ dX)
theorem jy{d:Nat}{o o':Oper}(hd:o.dst=some d):∀{l ahead:List Oper} {i:Nat},kX L ahead l i=true→∀(k j:Nat),l[k]? =some o→j < k→l[j]? =some o'→o'.dst≠some d
 |[],_,_,_,k,_,ho,_,_=>by simp at ho
 |x::l,ahead,i,h,k,j,ho,hj,dX=>by
  obtain⟨_,_,h3,_⟩:=gv h
  cases k with
  |zero=>omega
  |succ k=>
   cases j with
   |zero=>simp at dX;subst dX;exact sl hd h3 k (by simpa using ho) _ ah
   |succ j=>exact jy hd h3 k j (by simpa using ho) (by omega) (by simpa using dX)
def EB(len:Nat)(mm:MM):List Nat→Option (List Rec)
 |[]=>some []
 |i::l=>match getM mm i with
  |some (.box cs)=>match EB len mm l with
   |some r=>some (⟨len,i,cs,none,none⟩::r)
   |none=>none
  |_=>none
def eT(ids:List Nat):MM→MM
 |[]=>[]
 |(i,o)::r=>match fw ids i with
  |true=>eT ids r
  |false=>(i,o)::eT ids r
theorem dm{ids:List Nat}{q:Nat×MO}:∀{mm:MM},q∈eT ids mm↔q∈mm∧q.1∉ids
 |[]=>by simp[eT]
 |(i,o)::r=>by
  unfold eT
  split
  ·rename_i hm
   rw[dm]
   constructor
   ·rintro⟨h1,h2⟩;exact⟨ab _ h1,h2⟩
   ·rintro⟨h1,h2⟩
    rcases ae.1 h1 with rfl|h1
    ·exact absurd (cz.1 hm) h2
    ·exact⟨h1,h2⟩
  ·rename_i hm
   rw[ae,dm]
   constructor
   ·rintro(rfl|⟨h1,h2⟩)
    ·exact⟨ah,fun hk=>by rw[cz.2 hk]at hm;cases hm⟩
    ·exact⟨ab _ h1,h2⟩
   ·rintro⟨h1,h2⟩
    rcases ae.1 h1 with rfl|h1
    ·exact .inl rfl
    ·exact .inr ⟨h1,h2⟩
theorem zJ:∀mm:MM,eT [] mm=mm
 |[]=>rfl
 |(i,o)::r=>by unfold eT;simp only[fw];rw[zJ r]
theorem wE{len:Nat}{mm:MM}:∀{ids:List Nat} {R:List Rec},EB len mm ids=some R→∀r∈R,r.a=len∧r.st=none∧r.ar=none∧r.d∈ids∧(r.d,MO.box r.zr)∈mm
 |[],R,h=>by
  simp only[EB,ej]at h
  subst h
  exact fun r hr=>(by cases hr)
 |i::l,R,h=>by
  unfold EB at h
  split at h
  ·rename_i cs hg
   split at h
   ·rename_i R' hp
    injection h with h
    subst h
    have h1:=wE hp
    intro r hr
    rcases ae.1 hr with rfl|hr
    ·exact⟨rfl,rfl,rfl,ah,aN hg⟩
    ·obtain⟨g1,g2,g3,g4,g5⟩:=h1 r hr
     exact⟨g1,g2,g3,ab _ g4,g5⟩
   ·cases h
  ·cases h
theorem D0(ids:List Nat){R0:List Rec}{f:FuncId}{Rr:Ending→World→Prop}{k:List Item}{id:Nat}(mE:C.P.follows .mixedOrders=true)(dp:EB L.length eh ids=some R0)(Im:ids.all (fun i=>!fw (bV L) i)=true)
 (b7:kX L [] L 0=true)(hu:q5 (bV L) cp=true)
 (h:EOps C n (eT ids eh) L cp 0 L cp R0 (fun tm' mm'=>Goes C f n Rr k tm' mm')):Goes C f n Rr (.code (.region id L.toArray true)::k) cp eh:=by
 obtain⟨u1,u2⟩:=kp hu
 have p1:=wE dp
 have Oi:∀i∈ids,i∉bV L:=fun i hi hk=>by
  have:=aV.1 Im i hi
  rw[cz.2 hk]at this;cases this
 intro a w hh b cs hb hk
 have SQ:=nK hh
 have Bs:∀r∈R0,∀r'∈R0,r.d=r'.d→r=r':=by
  intro r hr r' ga e
  obtain⟨a1,a2,a3,_,a5⟩:=p1 r hr
  obtain⟨b1,b2,b3,_,b5⟩:=p1 r' ga
  have:=SQ _ a5 _ b5 e
  injection this with q1 q2
  injection q2 with q2
  obtain⟨ra,rd,rz,rs,rr⟩:=r
  obtain⟨ra',rd',rz',rs',rr'⟩:=r'
  simp only at a1 a2 a3 b1 b2 b3 q1 q2
  simp[a1,a2,a3,b1,b2,b3,q1,q2]
 obtain⟨dc,RF,hg,hT,hM,hF⟩:=h (fun d zr=>(d,MO.box zr)∈eh) [] ⟨fun j o hj=>(by omega),u2,fun p hp _=>hp,b7,rfl,rfl,Bs,fun r hr q hq e=>by
  have:=(dm.1 hq).2
  rw[e]at this
  exact this (p1 r hr).2.2.2.1,
  fun r hr=>⟨.inr (by rw[(p1 r hr).1];exact aA _),fun b cs eu=>by rw[(p1 r hr).2.1]at eu;cases eu⟩,fun r hr=>.inr (Oi _ (p1 r hr).2.2.2.1),fun r hr fG=>absurd (p1 r hr).2.2.1 fG,
  fun r hr _=>(p1 r hr).2.2.2.2⟩
 have fP:∀k,k < L.length→(Array.replicate L.length false).getD k false=false:=fun k hk=>by simp[Array.getD,hk]
 have Mt:∀k,k < L.length→(Array.replicate L.length false).getD k true=false:=fun k hk=>by simp[Array.getD,hk]
 have Cz:∀r∈RF,r.ar≠none→r.d∉ids:=fun r hr fG hi=>by
  obtain⟨o,ho,hd⟩:=hF.Pd r hr fG
  exact Oi _ hi (eX (an ho) hd)
 have Qp:∀r∈RF,r.ar≠none→r.a < L.length:=fun r hr fG=>by
  obtain⟨o,ho,_⟩:=hF.Pd r hr fG
  exact(ai.1 ho).1
 have oU:=LO (P:=fun tm' mm'=>Goes C f n Rr k tm' mm') b7 (fun i o ho=>hF.ok i o (ai.1 ho).1 ho) hF.keys hF.rd hF.r0 (fun r hr=>(hF.rl r hr).2) Qp
  (fun r hr fG k o ho hd=>by
    obtain⟨o',dX,F0⟩:=hF.Pd r hr fG
    rcases cv k r.a with bo|heq|bo
    ·exact absurd hd (jy F0 b7 _ _ dX bo ho)
    ·exact heq
    ·exact absurd F0 (jy hd b7 _ _ ho bo dX))
  hT hM hg L.length (Array.replicate L.length false) a {w with drawn:=w.drawn+1} cp eh (by simp)
  (by rw[show(Array.replicate L.length false).toList=List.replicate L.length false by simp];exact dN (eG _ _) (by simp))
  (fun p hp=>by
    obtain⟨g1,g2|⟨k,o,k1,k2,k3⟩⟩:=hp
    ·exact hF.base p g1 g2
    ·have kl:=(ai.1 k1).1
     rw[fP k kl]at k3;cases k3)
  ⟨fun q hq=>(dm.1 hq).1,fun r hr fG hl=>by
   by_cases uz:r.a < L.length
   ·rw[Mt _ uz]at hl;cases hl
   ·have hz:=hF.JX r hr (by omega)
    have:r.now (Array.replicate L.length false)=r.zr:=by
     unfold Rec.now
     split
     ·rename_i b' sA eu
      rw[if_neg (by rw[fP _ ((hF.rl r hr).2 b' sA eu)];simp)]
     ·rfl
    rw[this];exact hz,
   fun r hr e sz ys fG hl _=>(by
    rw[Mt _ (Qp r hr (by rw[fG];exact fun h=>by cases h))]at hl;cases hl),
   fun r hr b' sA eu hl=>(by
    rw[fP _ ((hF.rl r hr).2 b' sA eu)]at hl;cases hl),
   fun q hq=>.inl (by
    by_cases lC:q.1∈ids
    ·exact .inr (Oi _ lC)
    ·exact .inl ⟨q,dm.2 ⟨hq,lC⟩,rfl⟩),
   fun r hr fG q hq lY=>by
    obtain⟨q',pO,he⟩:=hh.Kz q hq _ lY
    have lC:q'.1∉ids:=by rw[he];exact Cz r hr fG
    exact hF.r0 r hr q' (dm.2 ⟨pO,lC⟩) he⟩ hh.drawn
 have KR:=wp_region_any (id:=id) (Q:=QT C n (fun tm' mm'=>Goes C f n Rr k tm' mm')) (ops:=L.toArray) (a:=a) (w:=w) mE (by simpa using oU)
 obtain⟨e,a',w',hq,uK⟩:=KR b k cs
 cases e with
 |normal=>
  obtain⟨tm',mm',hg,Io⟩:=hq
  obtain⟨e,xC,fr,g1,g2,g3⟩:=hg a' w' Io b cs hb hk
  exact⟨e,xC,fr,g1,Comes.of_steps uK g2,g3⟩
 |_=>exact hq.elim
theorem Lj{f:FuncId}{Rr:Ending→World→Prop}{k:List Item}{id:Nat}(mE:C.P.follows .mixedOrders=true)(b7:kX L [] L 0=true)(hu:q5 (bV L) cp=true)
 (h:EOps C n eh L cp 0 L cp [] (fun tm' mm'=>Goes C f n Rr k tm' mm')):Goes C f n Rr (.code (.region id L.toArray true)::k) cp eh:=
 D0 [] mE J J b7 hu (by rw[zJ];exact h)
end
end Go.Sy
namespace Go.Sy
open Go.RowKit
inductive LV where
 |stop (i:Nat)(l:List Oper)(tm:TM)(R:List Rec)
 |bad
def MD(Θ:dD)(n:Nat)(eh:MM)(L:List Oper):Nat→List Oper→TM→List Rec→LV
 |i,[],tm,R=>.stop i [] tm R
 |i,o::r,tm,R=>match bp L (bg (aK L o) tm) o with
  |some true=>match o.dst with
   |some d=>match vr Θ (bg (aK L o) tm) eh o.op with
    |some st=>match nk n d st tm with
     |some tm'=>MD Θ n eh L (i+1) r tm' R
     |none=>.stop i (o::r) tm R
    |none=>match o.op with
     |.alloc e=>match aZ Θ e with
      |some ⟨_,_,_,some zr,_⟩=>match iW eh d with
       |false=>match nk n d (.v (.one (.ptr d 0))) tm with
        |some tm'=>MD Θ n eh L (i+1) r tm' (⟨i,d,qn.sN SC.c zr,none,none⟩::R)
        |none=>.stop i (o::r) tm R
       |true=>.stop i (o::r) tm R
      |_=>.stop i (o::r) tm R
     |_=>.stop i (o::r) tm R
   |none=>match o.op with
    |.store t x y=>match aZ Θ t with
     |some ⟨sz,_,_,_,_⟩=>match aW (bg (aK L o) tm) x with
      |some (.ptr d 0)=>match xf d R with
       |some ⟨ra,rd,zr,none,none⟩=>match(fw (fz o.after.toList) ra||Nat.ble L.length ra)with
        |true=>match dM (bg (aK L o) tm) y with
         |some v=>match v.cells.all SC.known with
          |true=>match Nat.beq v.cells.length sz with
           |true=>match gq zr 0 v.cells with
            |some cs=>MD Θ n eh L (i+1) r tm (ze d i cs R)
            |none=>.stop i (o::r) tm R
           |false=>.stop i (o::r) tm R
          |false=>.stop i (o::r) tm R
         |none=>.stop i (o::r) tm R
        |false=>.stop i (o::r) tm R
       |_=>.stop i (o::r) tm R
      |_=>.stop i (o::r) tm R
     |none=>.stop i (o::r) tm R
    |_=>.stop i (o::r) tm R
  |some false=>match o.dst with
   |some d=>match nk n d (.gE []) tm with
    |some tm'=>MD Θ n eh L (i+1) r tm' R
    |none=>.stop i (o::r) tm R
   |none=>.stop i (o::r) tm R
  |none=>.stop i (o::r) tm R
section
variable {C:Ctx} {n:Nat} {eh:MM} {L:List Oper} {cp:TM} {T:TM→MM→Prop}
theorem nz{mm mm':MM}(hb:∀q∈mm,q∈mm')(hu:∀p∈mm',∀q∈mm',p.1=q.1→p=q):∀i o,getM mm i=some o→getM mm' i=some o:=
 fun i o h=>sx hu (hb _ (aN h))
theorem l5{Θ:dD}(bI:bz C.P Θ):∀{l:List Oper} {i:Nat} {tm:TM} {R:List Rec} {i':Nat} {l':List Oper} {tm':TM} {R':List Rec},
 MD Θ n eh L i l tm R=.stop i' l' tm' R'→EOps C n eh L cp i' l' tm' R' T→EOps C n eh L cp i l tm R T
 |[],i,tm,R,i',l',tm',R',h,k=>by
  simp only[MD,LV.stop.injEq]at h
  obtain⟨rfl,rfl,rfl,rfl⟩:=h
  exact k
 |o::r,i,tm,R,i',l',tm',R',h,k=>by
  have same:LV.stop i (o::r) tm R=.stop i' l' tm' R'→EOps C n eh L cp i (o::r) tm R T:=by
   intro e
   injection e with e1 e2 e3 e4
   subst e1 e2 e3 e4
   exact k
  unfold MD at h
  split at h
  ·rename_i hg
   split at h
   ·rename_i d hd
    split at h
    ·rename_i st hv
     split at h
     ·rename_i Bz hs
      obtain⟨hn,rfl⟩:=fJ hs
      exact EOps.step hg (fun mm' hb hu=>(kB bI (pb (nz hb hu) hv) hd hn).Jt) hd (l5 bI h k)
     ·exact same h
    ·split at h
     ·rename_i e ho
      split at h
      ·rename_i ht
       split at h
       ·rename_i iA
        split at h
        ·rename_i Bz hs
         obtain⟨hn,rfl⟩:=fJ hs
         refine EOps.alloc bI hg ho ht hd hn iA ?_
         rw[←qo]
         exact l5 bI h k
        ·exact same h
       ·exact same h
      ·exact same h
     ·exact same h
   ·rename_i hd
    split at h
    ·rename_i t x y ho
     split at h
     ·rename_i ht
      split at h
      ·rename_i d hx
       split at h
       ·rename_i ra rd zr hf
        split at h
        ·rename_i R7
         split at h
         ·rename_i v hy
          split at h
          ·rename_i hk
           split at h
           ·rename_i c8
            split at h
            ·rename_i cs Fe
             exact EOps.store bI hg ho ht hx hf J J R7 hy hk c8 Fe hd (l5 bI h k)
            ·exact same h
           ·exact same h
          ·exact same h
         ·exact same h
        ·exact same h
       ·exact same h
      ·exact same h
     ·exact same h
    ·exact same h
  ·rename_i hg
   split at h
   ·rename_i d hd
    split at h
    ·rename_i Bz hs
     obtain⟨hn,rfl⟩:=fJ hs
     exact EOps.skip hg hd hn (l5 bI h k)
    ·exact same h
   ·exact same h
  ·exact same h
def PM(Θ:dD)(n:Nat)(eh:MM)(L:List Oper)(i:Nat)(l:List Oper)(tm:TM)(R:List Rec):Option LV:=
 match x5 tm with
 |some tm'=>match MD Θ n eh L i l tm' R with
  |.stop a b c d=>some (.stop a b c d)
  |.bad=>none
 |none=>none
variable {tm tm':TM} {l l':List Oper} {R R':List Rec} {i i':Nat} {o:Oper} {d t:Nat} {s:ST}
theorem ay{Θ:dD}(bI:bz C.P Θ)(h:PM Θ n eh L i l tm R=some (.stop i' l' tm' R'))(k:EOps C n eh L cp i' l' tm' R' T):EOps C n eh L cp i l tm R T:=by
 unfold PM at h
 split at h
 ·rename_i Bz h1
  rw[←oq h1]
  split at h
  ·rename_i a b c d h3
   injection h with h
   injection h with e1 e2 e3 e4
   subst e1 e2 e3 e4
   exact l5 bI h3 k
  ·cases h
 ·cases h
variable {x y:Operand} {ty sI:TypeId}
theorem yu{st:ST}(h:∀mm',eO C n o (bg (aK L o) tm) mm' d st)(hg:bp L (bg (aK L o) tm) o=some true)(hd:o.dst=some d)(k:EOps C n eh L cp (i+1) l ((d,st)::bw tm d) R T):
 EOps C n eh L cp i (o::l) tm R T:=EOps.step hg (fun mm' _ _=>(h mm').Jt) hd k
theorem iC{Θ:dD}(bI:bz C.P Θ){nn:Bool}{sz:Nat}{xs:List (List CT)}{kd:IntKind}{m:Int}{e:Nat}{z dG:Nat}{ag:Bool}{zr:Option (List CT)}{ei:gD}
 (ho:o.op=.indexAddr ty x y)(ht:aZ Θ ty=some ⟨z,dG,ag,zr,.slice e⟩)(fm:aZ Θ e=some ei)(hx:aW (bg (aK L o) tm) x=some (.c (.slice nn sz xs)))(c8:Nat.beq ei.size sz=true)
 (hi:aW (bg (aK L o) tm) y=some (.c (.int kd m)))(hd:o.dst=some d)(hn:Nat.blt d n=true)(hg:bp L (bg (aK L o) tm) o=some true)
 (j:Nat)(cs:List CT)(hm:m=(j:Int))(hj:xs[j]? =some cs)(k:EOps C n eh L cp (i+1) l ((d,.v (.one (.hC cs)))::bw tm d) R T):EOps C n eh L cp i (o::l) tm R T:=
 yu (fun mm'=>xY bI ho ht fm c8 hx hi hm hj hd hn) hg hd k
theorem iY{g:FuncId}{args args':List SV}{res:ST}(hc:dy C.P g [] args res []){xs:Array Operand}{ts:Array TypeId}
 (ho:o.op=.call {callee:=.value (.func g),args:=xs,argTypes:=ts})(cE:da (bg (aK L o) tm) xs.toList=some args')(iV:iO [] args=some args')
 (eK:gR res=true)(hd:o.dst=some d)(hn:Nat.blt d n=true)(hg:bp L (bg (aK L o) tm) o=some true)
 (k:EOps C n eh L cp (i+1) l ((d,res)::bw tm d) R T):EOps C n eh L cp i (o::l) tm R T:=
 EOps.step hg (fun mm' _ _=>tX hc [] ho cE iV J J J eK hd hn J) hd k
end
structure ConE(P:Program)(f:FuncId)(pre:List (List CT))(args:List SV)(ι:Type)(Q:ι→Prop)(res:ι→ST)(post:ι→List (List CT)):Prop where
 ok:kQ P f
 calls:∀(w:World) (M0:Nat→Prop) (H:Nat→Value) (Z:Nat→Nat) (vs:List Value),te w M0 H Z (bU given pre)→
  Pw (fun v s=>cF (cD (bU given pre)) H Z w (fun b=>M0 b∨bP H (bU given pre) b) v s) vs args→
  Calls P f vs.toArray w fun e w'=>∃x,Q x∧∃v,e=.returned v∧Ext (bP H (bU given pre)) w w'∧
   (∀p∈bU given (post x),eb (cD (bU given pre)) H Z w' (fun b=>M0 b∨bP H (bU given pre) b) p.1 p.2)∧
   fy (cD (bU given pre)) H Z w' (fun b=>M0 b∨bP H (bU given pre) b) v (res x)
theorem Goes.PG{C:Ctx}{f:FuncId}{n:Nat}{R R':Ending→World→Prop}{t:List Item}{tm:TM}{mm:MM}(h:Goes C f n R t tm mm)(hR:∀e w,R e w→R' e w):Goes C f n R' t tm mm:=by
 intro a w hh b cs hb hk
 obtain⟨e,w',fr,h1,h2⟩:=h a w hh b cs hb hk
 exact⟨e,w',fr,hR e w' h1,h2⟩
end Go.Sy
namespace Go.Sy
open Go.RowKit
def jQ(i:Nat):TM→TM
 |[]=>[]
 |(t,s)::r=>match fw s.bD i with
  |true=>jQ i r
  |false=>(t,s)::jQ i r
theorem jB{i:Nat}{p:Nat×ST}:∀{l:TM},p∈jQ i l→p∈l∧i∉p.2.bD
 |[],h=>by cases h
 |(t,s)::r,h=>by
  unfold jQ at h
  split at h
  ·obtain⟨h1,h2⟩:=jB h;exact⟨ab _ h1,h2⟩
  ·rename_i hm
   rcases ae.1 h with rfl|h
   ·exact⟨ah,fun hk=>by rw[cz.2 hk]at hm;cases hm⟩
   ·obtain⟨h1,h2⟩:=jB h;exact⟨ab _ h1,h2⟩
def ed(i:Nat):MM→Bool
 |[]=>true
 |(_,o)::r=>match fw o.bD i with
  |true=>false
  |false=>ed i r
theorem dP{i:Nat}{p:Nat×MO}:∀{l:MM},ed i l=true→p∈l→i∉p.2.bD
 |[],_,h=>by cases h
 |(t,s)::r,hn,h=>by
  unfold ed at hn
  split at hn
  ·cases hn
  ·rename_i hm
   rcases ae.1 h with rfl|h
   ·exact fun hk=>by rw[cz.2 hk]at hm;cases hm
   ·exact dP hn h
def MS(C:Ctx)(n:Nat)(tm:TM)(mm:MM)(y:Operand)(sz:Nat)(ys:List (List CT)):Prop:=
 ∀H Z a w,Mod C H Z n tm mm a w→(∀q∈ys,q.length=sz)∧∃(ad:Addr) (c:Nat) (news:List Value),a.eval y=.slice (some ad) ys.length c∧news.length=ys.length * sz∧(∀(j:Nat) (u:Value),news[j]? =some u→w.cell? (ad.add j)=some u)∧
  (∀(k:Nat) (q:List CT),ys[k]? =some q→∀(j:Nat) (ct:CT),q[j]? =some ct→∃u,news[k * sz+j]? =some u∧a7 w (cU C H mm) u ct)
section
variable {C:Ctx} {n:Nat} {tm:TM} {mm:MM} {o:Oper} {d:Nat}
theorem mA{w:World}{M:Nat→Prop}{sz:Nat}{ys:List (List CT)}{news:List Value}(h0:∀q∈ys,q.length=sz)(hl:news.length=ys.length * sz)
 (h:∀(k:Nat) (q:List CT),ys[k]? =some q→∀(j:Nat) (ct:CT),q[j]? =some ct→∃u,news[k * sz+j]? =some u∧a7 w M u ct):∀u∈news,u.oneCell'=true:=by
 intro u hu
 obtain⟨m,hm,VS⟩:=aB.1 hu
 have c8:0 < sz:=by
  rcases pR sz with h|h
  ·subst h;omega
  ·exact h
 have hk:m / sz < ys.length:=by rw[Nat.div_lt_iff_lt_mul c8];omega
 have hj:m % sz < ys[m / sz].length:=by rw[h0 _ (az hk)];exact vl _ c8
 obtain⟨u',lY,hr⟩:=h (m / sz) ys[m / sz] (aa hk) (m % sz) _ (aa hj)
 have e:m / sz * sz+m % sz=m:=by rw[vk];exact Nat.div_add_mod m sz
 rw[e,aa hm,VS]at lY
 injection lY with lY
 rw[lY];exact hr.one
theorem Fw{y:Operand}{k e sz:Nat}{ys:List (List CT)}(hy:aW tm y=some (.own k))(hk:getM mm k=some (.arr true e sz ys)):MS C n tm mm y sz ys:=by
 intro H Z a w hm
 obtain⟨_,hv⟩:=aX hm hy
 obtain⟨hz,us,dF,sv,hlen,cL⟩:=hm.mem _ (aN hk)
 rcases dF.2 with⟨h0,_⟩|⟨g,cap,cur,hg,h2⟩
 ·exact absurd h0 (sv J)
 ·refine⟨hlen,⟨g,0,none⟩,cap,us,by rw[hv,hg],dF.1,fun j u hu=>?_,cL⟩
  exact World.ownsRow.cells dF (by rw[hg];rfl) j u hu
theorem EM{Θ:dD}(bI:bz C.P Θ){t:TypeId}{x y:Operand}{z dG e:Nat}{ag:Bool}{zt:Option (List CT)}{ei:gD}{zr:List CT}{i:Nat}{nn:Bool}{sz:Nat}{xs ys:List (List CT)}
 (ho:o.op=.call {callee:=.builtin .append,args:=⟨[x,y]⟩,argTypes:=⟨[t,t]⟩})(ht:aZ Θ t=some ⟨z,dG,ag,zt,.slice e⟩)(fm:aZ Θ e=some ei)(hz:ei.zero=some zr)
 (c8:Nat.beq ei.size sz=true)(mS:Nat.blt 0 ei.size=true)(hx:aW tm x=some (.own i))(hi:getM mm i=some (.arr nn e sz xs))(hy:MS C n tm mm y sz ys)
 (gx:xs.length+ys.length≤9223372036854775807∧(xs.length+ys.length) * ei.bytes≤140737488355328)(iF:Nat.blt i given=true)(fO:ed i mm=true)(hd:o.dst=some d)(hn:Nat.blt d n=true):
 yW C n o tm mm ((d,.v (.one (.own i)))::bw (jQ i tm) d) (cK mm i (.arr false e sz (xs++ys))):=by
 intro a w ⟨H,Z,hm⟩
 obtain⟨inf,de,hf⟩:=jH bI ht
 obtain⟨lX,yU,iG⟩:=jH bI fm
 obtain⟨zv,Aw,vH,Cp⟩:=iG.zero zr hz
 obtain⟨FP,_⟩:=e7 (w:=w) (M:=cU C H mm) vH
 have kZ:de=.slice e:=by
  have:=hf.sh
  cases de<;>simp[eR]at this⊢
  exact this
 subst kZ
 have HW:ei.size=sz:=aR c8
 subst HW
 have nG:0 < ei.size:=aY.mp mS
 obtain⟨_,hv⟩:=aX hm hx
 obtain⟨hZ,us,dF,_,hlen,cL⟩:=hm.mem _ (aN hi)
 obtain⟨w6,ad,c,news,Vq,H8,CC,w5⟩:=hy H Z a w hm
 obtain⟨v',w',hr,h2,h3,_,h5⟩:=run_append_own_at (P:=C.P) w 0 t o.type e lX zv ei.size ei.bytes hf.Dd iG.info Aw iG.size iG.bytes (by rw[FP,Cp]) nG (H i) xs.length us dF ad ys.length c news H8 CC
  (mA w6 H8 w5) (by simp only[maxLen];omega) gx.2 (aM _)
 have dQ:(execOp a.eval o).run C.P w=.ok (.value v') w':=by
  unfold execOp
  simp only[ho,resolve,invoke,builtin,Sem.run_bind,Sem.run_pure,Result.andThen_ok,dz,bF,gh,hv,Vq,hr]
 have CI:∀b,Hb v' b↔v'.ownBlock=some b:=fun b=>pM h2 b
 have OA:∀b,Hb (H i) b↔(H i).ownBlock=some b:=fun b=>pM dF b
 have ec:Ext (fun b=>Hb (H i) b) w w':=⟨h3.os,h3.tape,h3.output,h3.size,fun k hk cj=>h3.block k hk (fun e=>cj ((OA _).2 (by first|exact e|exact e.symm)))⟩
 have na:∀b,Hb v' b→b < w'.heap.size:=by
  intro b hb
  rcases h2.2 with⟨rfl,_⟩|⟨g,cap,cur,rfl,_,hg,_⟩
  ·simp[Hb,hblk]at hb
  ·simp[Hb,hblk]at hb
   subst hb
   exact(bu.1 hg).1
 have QX:i < given:=aY.mp iF
 have hI:∀j,cD mm j→cD (cK mm i (.arr false e ei.size (xs++ys))) j:=fun j hj=>(eI j).2 hj
 refine .inl ⟨v',w',dQ,jf H i v',Z,?_⟩
 rw[hd]
 refine hm.build (fun b=>Hb (H i) b) ec (fun b _ hb=>⟨_,aN hi,hb⟩) (by simpa[Act.put]using hm.defers) (by simp[Act.put,hm.size]) ?_ ?_ ?_ ?_ ?_
 ·intro p hp jZ
  have su:p.1≠i:=by omega
  rw[bx _ _ su]
  rcases cq p hp with⟨rfl,_⟩|⟨k1,_⟩
  ·exact absurd J su
  ·exact hm.hg p k1 jZ
 ·intro p hp q hq he
  rcases cq p hp with⟨rfl,_⟩|⟨k1,k2⟩<;>rcases cq q hq with⟨rfl,_⟩|⟨vF,s7⟩
  ·rfl
  ·exact absurd he.symm s7
  ·exact absurd he k2
  ·exact hm.ids p k1 q vF he
 ·intro p hp
  rcases cq p hp with⟨rfl,_⟩|⟨k1,k2⟩
  ·refine .inr ⟨fun b hb=>?_,fun iH iA=>?_⟩
   ·rw[bc]at hb
    rcases h5 with h5|h5
    ·exact .inr ⟨_,aN hi,(OA b).2 (by rw[←h5];exact(CI b).1 hb),.inl rfl⟩
    ·refine .inl ⟨?_,na b hb⟩
     replace hb:=(CI b).1 hb;rw[h5]at hb;injection hb with hb;omega
   ·refine⟨hZ,us++news,by rw[bc,aL];exact h2,(fun h=>by cases h),fun q hq=>?_,fun k q hk j ct hc=>?_⟩
    ·rcases aQ.1 hq with hq|hq
     ·exact hlen q hq
     ·exact w6 q hq
    ·have rK:us.length=xs.length * ei.size:=dF.1
     rw[bN]at hk
     split at hk
     ·rename_i kl
      obtain⟨u,hu,hr⟩:=cL k q hk j ct hc
      refine⟨u,?_,a7.mono hr h3.size iA iH⟩
      rw[aG (ai.1 hu).1]
      exact hu
     ·rename_i kl
      obtain⟨u,hu,hr⟩:=w5 _ q hk j ct hc
      refine⟨u,?_,a7.mono hr h3.size iA iH⟩
      have hle:xs.length * ei.size≤k * ei.size:=bq _ (by omega)
      rw[aO (by rw[rK];omega),rK]
      rw[Nat.sub_mul]at hu
      rw[←hu];congr 1;omega
  ·refine .inl ⟨k1,bx _ _ k2,rfl,fun b hb hx=>?_,fun j hj j1=>⟨hI j j1,bx _ _ (fun e=>?_),rfl⟩⟩
   ·exact hm.sep p k1 _ (aN hi) k2 b hb hx
   ·subst e;exact dP fO k1 hj
 ·intro p hp q hq jl b cC db
  have key:∀p∈mm,p.1≠i→Hb (H p.1) b→Hb v' b→False:=by
   intro p hp su h1 h2
   rcases h5 with h5|h5
   ·exact hm.sep p hp _ (aN hi) su b h1 ((OA b).2 (by rw[←h5];exact(CI b).1 h2))
   ·replace h2:=(CI b).1 h2;rw[h5]at h2
    injection h2 with h2
    have:=(hm.fresh p hp b h1).2
    omega
  rcases cq p hp with⟨rfl,_⟩|⟨k1,k2⟩<;>rcases cq q hq with⟨rfl,_⟩|⟨vF,s7⟩
  ·exact jl J
  ·rw[bc]at cC;rw[bx _ _ s7]at db
   exact key q vF s7 db cC
  ·rw[bc]at db;rw[bx _ _ k2]at cC
   exact key p k1 k2 cC db
  ·rw[bx _ _ k2]at cC;rw[bx _ _ s7]at db
   exact hm.sep p k1 q vF jl b cC db
 ·intro p hp
  rcases ae.1 hp with rfl|hp
  ·refine .inr fun _ _=>?_
   rw[gQ (by rw[hm.size];exact aY.mp hn)]
   exact⟨hI i ⟨_,aN hi,rfl⟩,(bc _ _ _).symm⟩
  ·obtain⟨h1,qv⟩:=b4 hp
   obtain⟨OB,h4⟩:=jB h1
   exact .inl ⟨p,OB,rfl,fu qv,fun j hj j1=>⟨hI j j1,bx _ _ (fun e=>h4 (e▸hj)),rfl⟩⟩
theorem Has.RA{a:Act}{w:World}(t j e sz:Nat)(ht:iX tm t=some (.v (.one (.c .bK))))(hj:Nat.blt j given=true)(hf:iW mm j=false)(h:Has C n tm mm a w):
 Has C n ((t,.v (.one (.own j)))::bw tm t) ((j,.arr false e sz [])::mm) a w:=by
 obtain⟨H,Z,hm⟩:=h
 have yO:=fc hf
 have cj:∀p∈mm,p.1≠j:=fun p hp e=>yO ⟨p,hp,e⟩
 have KW:∀k,cD mm k→k≠j:=fun k ⟨p,hp,e⟩ e'=>cj p hp (e.trans e')
 have hI:∀k,cD mm k→cD ((j,MO.arr false e sz [])::mm) k:=fun k ⟨p,hp,e⟩=>⟨p,ab _ hp,e⟩
 have rM:j < given:=aY.mp hj
 refine⟨jf H j (.slice none 0 0),jf Z j sz,hm.build (fun _=>False) (Ext.refl _ _) (fun _ _ h=>h.elim) hm.defers hm.size ?_ ?_ ?_ ?_ ?_⟩
 ·intro p hp jZ
  rcases ae.1 hp with rfl|hp
  ·simp only at jZ;omega
  ·rw[bx _ _ (cj p hp)];exact hm.hg p hp jZ
 ·intro p hp q hq he
  rcases ae.1 hp with rfl|hp<;>rcases ae.1 hq with rfl|hq
  ·rfl
  ·exact absurd he.symm (cj q hq)
  ·exact absurd he (cj p hp)
  ·exact hm.ids p hp q hq he
 ·intro p hp
  rcases ae.1 hp with rfl|hp
  ·refine .inr ⟨fun b hb=>by rw[bc]at hb;simp[Hb,hblk]at hb,fun _ _=>⟨bc _ _ _,[],?_,(fun h=>by cases h),(fun q hq=>by cases hq),fun k q hq=>by simp at hq⟩⟩
   rw[bc]
   exact World.ownsRow_nil w 0 e sz
  ·exact .inl ⟨hp,bx _ _ (cj p hp),bx _ _ (cj p hp),fun _ _ h=>h,fun k _ hk=>⟨hI k hk,bx _ _ (KW k hk),bx _ _ (KW k hk)⟩⟩
 ·intro p hp q hq jl b cC db
  rcases ae.1 hp with rfl|hp
  ·rw[bc]at cC;simp[Hb,hblk]at cC
  ·rcases ae.1 hq with rfl|hq
   ·rw[bc]at db;simp[Hb,hblk]at db
   ·rw[bx _ _ (cj p hp)]at cC
    rw[bx _ _ (cj q hq)]at db
    exact hm.sep p hp q hq jl b cC db
 ·intro p hp
  rcases ae.1 hp with rfl|hp
  ·refine .inr fun _ _=>?_
   have:a.tmps.getD t undef=.slice none 0 0:=a7.kF (hm.tmps _ (gk ht))
   exact⟨⟨_,ah,rfl⟩,by rw[bc];exact this⟩
  ·exact .inl ⟨p,(b4 hp).1,rfl,rfl,fun k _ hk=>⟨hI k hk,bx _ _ (KW k hk),bx _ _ (KW k hk)⟩⟩
end
section
variable {C:Ctx} {f:FuncId} {n:Nat} {R:Ending→World→Prop} {k:List Item} {tm:TM} {mm:MM} {L l:List Oper} {T:TM→MM→Prop} {o:Oper} {d:Nat}
theorem qy(t j e sz:Nat)(ht:iX tm t=some (.v (.one (.c .bK))))(hj:Nat.blt j given=true)(hf:iW mm j=false)
 (g:Goes C f n R k ((t,.v (.one (.own j)))::bw tm t) ((j,.arr false e sz [])::mm)):Goes C f n R k tm mm:=g.mono fun _ _ h=>h.RA t j e sz ht hj hf
theorem er{Θ:dD}(bI:bz C.P Θ){t:TypeId}{x y:Operand}{z dG e:Nat}{ag:Bool}{zt:Option (List CT)}{ei:gD}{zr:List CT}{i k e':Nat}{nn:Bool}{sz:Nat}{xs ys:List (List CT)}
 (ho:o.op=.call {callee:=.builtin .append,args:=⟨[x,y]⟩,argTypes:=⟨[t,t]⟩})(ht:aZ Θ t=some ⟨z,dG,ag,zt,.slice e⟩)(fm:aZ Θ e=some ei)(hz:ei.zero=some zr)
 (c8:Nat.beq ei.size sz=true)(mS:Nat.blt 0 ei.size=true)(hx:aW tm x=some (.own i))(hi:getM mm i=some (.arr nn e sz xs))(hy:aW tm y=some (.own k))(hk:getM mm k=some (.arr true e' sz ys))
 (iF:Nat.blt i given=true)(fO:ed i mm=true)(hd:o.dst=some d)(hn:Nat.blt d n=true)(hg:bp L tm o=some true)
 (gx:xs.length+ys.length≤9223372036854775807∧(xs.length+ys.length) * ei.bytes≤140737488355328)
 (g:SOps C n L.toArray l ((d,.v (.one (.own i)))::bw (jQ i tm) d) (cK mm i (.arr false e sz (xs++ys))) T):SOps C n L.toArray (o::l) tm mm T:=
 dO (EM bI ho ht fm hz c8 mS hx hi (Fw hy hk) gx iF fO hd hn).wp hg g
end
theorem aT{P:Program}{w0:World}{M0:Nat→Prop}{f:FuncId}{n:Nat}{tm:TM}{mm:MM}{pre post:List (List CT)}{H:Nat→Value}{Z:Nat→Nat}{Θ:dD}(bI:bz P Θ)
 {fn:Func}(hf:P.funcs[f]? =some fn){rs:List SV}{res:ST}{wG:List (List CT)}{t:List Item}(ht:t=[]∨∃k,t=.code .ret::k)
 (hr:sK Θ tm mm fn.results.toList=some rs)(hp:gR (dI rs)=true)(qt:wF mm given pre.length=some wG)
 (he:Eh (dI rs) res)(oA:wG=post):
 Goes ⟨P,w0,M0,bP H (bU given pre),H,fun _=>False,fun _ h=>h.elim⟩ f n (Jq H Z pre post w0 M0 res) t tm mm:=
 (fk bI hf ht hr hp qt ⟨rfl,oA⟩).PG fun e w ⟨v,h1,h2,h3,h4⟩=>⟨v,h1,h2,h3,he.rep h4⟩
theorem dZ{C:Ctx}{f:FuncId}{n:Nat}{R:Ending→World→Prop}{k:List Item}{tm:TM}{mm:MM}(i:Nat){nn:Bool}{e sz:Nat}{xs:List (List CT)}(hi:getM mm i=some (.arr nn e sz xs))(hg:Nat.blt i given=true)
 (g:Goes C f n R k (vt i (.c (.slice nn sz xs)) tm) (jt i (.c (.slice nn sz xs)) mm)):Goes C f n R k tm mm:=g.mono fun _ _ h=>h.freeze hi hg
theorem nq{C:Ctx}{n:Nat}{L l:List Oper}{T:TM→MM→Prop}{tm:TM}{mm:MM}(i:Nat){nn:Bool}{e sz:Nat}{xs:List (List CT)}(hi:getM mm i=some (.arr nn e sz xs))(hg:Nat.blt i given=true)
 (g:SOps C n L.toArray l (vt i (.c (.slice nn sz xs)) tm) (jt i (.c (.slice nn sz xs)) mm) T):SOps C n L.toArray l tm mm T:=g.mono fun _ _ h=>h.freeze hi hg
end Go.Sy
