/- The symbolic layer, bundle Sy8. -/
import Derived.Test.YtdjocfajcbhmgaaGreatDoorSy7
set_option linter.unusedSimpArgs false
set_option linter.unusedVariables false
set_option linter.unusedSectionVars false
namespace Go.Sy
open Go.RowKit
abbrev PL:=List (TypeId×Nat×PQ)
def G4(ps:PL)(b:Nat):Prop:=∃p∈ps,∃q∈p.2.2,hblk q.1=some b
structure Jo(w w':World)(M0:Nat→Prop)(ps:PL):Prop where
 ok:∀p∈ps,ea w' (fun b=>M0 b∨G4 ps b) p.1 p.2.1 p.2.2
 fresh:∀b,G4 ps b→w.heap.size≤b
 sep:∀(j k:Nat) (p q:TypeId×Nat×PQ),ps[j]? =some p→ps[k]? =some q→j≠k→∀b,(∃r∈p.2.2,hblk r.1=some b)→¬∃r∈q.2.2,hblk r.1=some b
def Jr{ι:Type}(Q:ι→Prop)(res:ι→ST)(ps:ι→PL)(w:World)(M0:Nat→Prop)(e:Ending)(w':World):Prop:=
 ∃x v,Q x∧e=.returned v∧Ext (fun _=>False) w w'∧Jo w w' M0 (ps x)∧fy (fun _=>False) (fun _=>undef) (fun _=>0) w' (fun b=>M0 b∨G4 (ps x) b) v (res x)
structure vR(P:Program)(f:FuncId)(args:List SV){ι:Type}(Q:ι→Prop)(res:ι→ST)(ps:ι→PL):Prop where
 ok:kQ P f
 calls:∀(w:World) (M0:Nat→Prop) (H:Nat→Value) (Z:Nat→Nat) (vs:List Value),(∀b,M0 b→b < w.heap.size)→
  Pw (fun v s=>cF (cD []) H Z w M0 v s) vs args→Calls P f vs.toArray w (Jr Q res ps w M0)
theorem oH{P:Program}{f:FuncId}{fn:Func}{c:Code}{args:List SV}{ι:Type}{Q:ι→Prop}{res:ι→ST}{ps:ι→PL}
 (hf:P.funcs[f]? =some fn)(hb:fn.body=some c)(hn:Nat.ble args.length fn.ntmps=true)(N4:Nat.ble fn.ntmps given=true)(FW:(fn.name=="runtime.NumGoroutine")=false)
 (h:∀(w:World) (M0:Nat→Prop) (H:Nat→Value),Goes ⟨P,w,M0,fun _=>False,H,fun _=>False,fun _ h=>h.elim⟩ f fn.ntmps (Jr Q res ps w M0) [.code c] (sT 0 args) []):vR P f args Q res ps:=by
 refine⟨nR hf hb FW,?_⟩
 intro w M0 H Z vs Oy cE fs
 have hlen:vs.length=args.length:=cE.1
 let a:Act:={tmps:=vs.toArray++Array.replicate (fn.ntmps - vs.toArray.size) undef,defers:=[]}
 have hn:=fR.mp hn
 have dC:Mod ⟨P,w,M0,fun _=>False,H,fun _=>False,fun _ h=>h.elim⟩ H Z fn.ntmps (sT 0 args) [] a w:=by
  refine⟨rfl,by simp[a];omega,fR.mp N4,(fun p hp=>by cases hp),Ext.refl _ _,Oy,(fun p hp=>by cases hp),(fun p hp=>by cases hp),(fun p hp=>by cases hp),(fun p hp=>by cases hp),?_⟩
  intro p hp
  obtain⟨j,s,rfl,hj⟩:=nY hp
  obtain⟨u,hu,hr⟩:=cE.2 j s hj
  have eC:j < vs.length:=(ai.1 hu).1
  have:a.tmps.getD (0+j) undef=u:=by
   have Oc:vs[j]=u:=by
    have:=aa eC
    rw[hu]at this
    injection this with this;exact this.symm
   simp[a,cN,mL,eC,Oc]
  rw[this]
  exact cF.mono hr (fun i _ hi=>⟨hi,rfl,rfl⟩) (aA _) (fun _ _ _=>rfl) (fun b _ hb=>by
   rcases hb with hb|⟨p,hp,_⟩
   ·exact hb
   ·cases hp)
 let b:Frame:={(default:Frame)with fn:=f,kind:=.normal}
 have pC:Frame.enter P f vs.toArray .normal=b.at a [.code c]:=by
  simp[Frame.enter,Frame.at,hf,hb,b,a]
 obtain⟨e,w',fr,h1,h2,h3,h4⟩:=h w M0 H a w ⟨H,Z,dC⟩ b fs J J
 rw[pC]
 exact⟨e,w',fr,h1,h2,h3,h4⟩
def tS(mm:MM):List Nat→Option PL
 |[]=>some []
 |i::r=>match getM mm i with
  |some (.bG e sz qs)=>match tS mm r with
   |some l=>some ((e,sz,qs)::l)
   |none=>none
  |_=>none
theorem si{mm:MM}:∀{ids:List Nat} {ps:PL},tS mm ids=some ps→ids.length=ps.length∧∀(k:Nat) (p:TypeId×Nat×PQ),ps[k]? =some p→∃i,ids[k]? =some i∧(i,MO.bG p.1 p.2.1 p.2.2)∈mm
 |[],ps,h=>by simp[tS]at h;subst h;exact⟨rfl,fun k p hp=>by simp at hp⟩
 |i::r,ps,h=>by
  unfold tS at h
  split at h
  ·rename_i hg
   split at h
   ·rename_i l hl
    injection h with h;subst h
    obtain⟨h1,h2⟩:=si hl
    refine⟨by simp[h1],fun k p hp=>?_⟩
    cases k with
    |zero=>simp at hp;subst hp;exact⟨i,rfl,aN hg⟩
    |succ k=>simpa using h2 k p (by simpa using hp)
   ·cases h
  ·cases h
def n0:List Nat→Bool
 |[]=>true
 |i::r=>match Nat.blt i given with
  |true=>n0 r
  |false=>false
theorem nZ:∀{l:List Nat},n0 l=true→∀i∈l,i < given
 |[],_,i,hi=>by cases hi
 |j::r,h,i,hi=>by
  unfold n0 at h
  split at h
  ·rename_i hb
   rcases ae.1 hi with rfl|hi
   ·exact aY.mp hb
   ·exact nZ h i hi
  ·cases h
theorem lE{P:Program}{w0:World}{M0:Nat→Prop}{f:FuncId}{n:Nat}{tm:TM}{mm:MM}{H:Nat→Value}{Θ:dD}(bI:bz P Θ){ι:Type}{Q:ι→Prop}{res:ι→ST}{ps:ι→PL}
 {fn:Func}(hf:P.funcs[f]? =some fn)(ids:List Nat)(x:ι){rs:List SV}{t:List Item}(ht:t=[]∨∃k,t=.code .ret::k)
 (hr:sK Θ tm mm fn.results.toList=some rs)(he:dI rs=res x)(eK:gR (res x)=true)(VM:tS mm ids=some (ps x))(kI:j8 ids=true)(hg:n0 ids=true)(hQ:Q x):
 Goes ⟨P,w0,M0,fun _=>False,H,fun _=>False,fun _ h=>h.elim⟩ f n (Jr Q res ps w0 M0) t tm mm:=by
 intro a w ⟨H',Z',hm⟩ b fs hb hk
 obtain⟨v,h1,h2⟩:=lh bI hm hr
 obtain⟨p1,p2⟩:=si VM
 have hH:∀i e sz qs,(i,MO.bG e sz qs)∈mm→H' i=eA qs∧ea w (cU ⟨P,w0,M0,fun _=>False,H,fun _=>False,fun _ h=>h.elim⟩ H' mm) e sz qs:=fun i e sz qs hi=>hm.mem _ hi
 have hM:∀b,(M0 b∨G4 (ps x) b)→cU ⟨P,w0,M0,fun _=>False,H,fun _=>False,fun _ h=>h.elim⟩ H' mm b:=by
  rintro b (hb|⟨p,hp,cC⟩)
  ·exact .inl hb
  ·obtain⟨k,hk,QM⟩:=aB.1 hp
   obtain⟨i,_,hi⟩:=p2 k p (by rw[aa hk,QM])
   exact .inr ⟨_,hi,by rw[show H' (i,_).1=_ from(hH _ _ _ _ hi).1];exact cO.2 cC⟩
 have uI:Jr Q res ps w0 M0 (.returned v) w:=by
  refine⟨x,v,hQ,rfl,hm.ext,⟨fun p hp=>?_,fun b hb=>?_,fun j k p q hj hk Oe b cC db=>?_⟩,?_⟩
  ·obtain⟨k,hk,QM⟩:=aB.1 hp
   obtain⟨i,_,hi⟩:=p2 k p (by rw[aa hk,QM])
   obtain⟨_,g1,g2⟩:=hH _ _ _ _ hi
   exact⟨fun k q hq=>eM.mono (v:=q.1) (xs:=q.2) (g1 k q hq) (fun _ _=>rfl) (aA _) (fun _ _ _=>rfl) (fun b _ hb=>hM b hb),g2⟩
  ·obtain⟨p,hp,cC⟩:=hb
   obtain⟨k,hk,QM⟩:=aB.1 hp
   obtain⟨i,kJ,hi⟩:=p2 k p (by rw[aa hk,QM])
   have iA:=(hm.fresh _ hi b (by rw[show H' (i,_).1=_ from(hH _ _ _ _ hi).1];exact cO.2 cC)).1
   have:=nZ hg i (an kJ)
   rcases iA with⟨_,h|h⟩|⟨h,_⟩
   ·exact h
   ·exact h.elim
   ·simp only at h;omega
  ·obtain⟨i,kJ,hi⟩:=p2 j p hj
   obtain⟨i',Tw,Mq⟩:=p2 k q hk
   have cj:i≠i':=fun e=>by
    subst e
    have FX:=(ai.1 kJ)
    have Pr:=(ai.1 Tw)
    obtain⟨l1,g1⟩:=FX
    obtain⟨l2,g2⟩:=Pr
    exact Oe (ot (mC kI) l1 l2 (by rw[g1,g2]))
   exact hm.sep _ hi _ Mq cj b (by rw[show H' (i,_).1=_ from(hH _ _ _ _ hi).1];exact cO.2 cC) (by rw[show H' (i',_).1=_ from(hH _ _ _ _ Mq).1];exact cO.2 db)
  ·rw[←he]
   exact h2.mono (fun i hi=>by rw[he,my eK]at hi;cases hi) (aA _) (fun _ _ _=>rfl) (fun b _ hb=>hM b hb)
 rcases ht with rfl|⟨k,rfl⟩
 ·exact⟨.returned v,w,_,uI,Steps.one step_end,hb,rfl,hm.defers,hk,fn,hb▸hf,h1⟩
 ·exact⟨.returned v,w,_,uI,Steps.one step_ret,hb,rfl,hm.defers,hk,fn,hb▸hf,h1⟩
def kD:List Nat→PL→MM
 |j::js,p::ps=>(j,.bG p.1 p.2.1 p.2.2)::kD js ps
 |_,_=>[]
theorem ef:∀{js:List Nat} {ps:PL} {q:Nat×MO},q∈kD js ps→∃(k j:Nat) (p:TypeId×Nat×PQ),js[k]? =some j∧ps[k]? =some p∧q=(j,.bG p.1 p.2.1 p.2.2)
 |[],_,q,h=>by simp[kD]at h
 |_::_,[],q,h=>by simp[kD]at h
 |j::js,p::ps,q,h=>by
  unfold kD at h
  rcases ae.1 h with rfl|h
  ·exact⟨0,j,p,rfl,rfl,rfl⟩
  ·obtain⟨k,j',p',h1,h2,h3⟩:=ef h
   exact⟨k+1,j',p',by simpa using h1,by simpa using h2,h3⟩
def sq:List Nat→PL→Nat→Option Value
 |j::js,p::ps,i=>if j=i then some (eA p.2.2)else sq js ps i
 |_,_,_=>none
theorem wV:∀{js:List Nat} {ps:PL},js.Nodup→∀{k j:Nat} {p:TypeId×Nat×PQ},js[k]? =some j→ps[k]? =some p→sq js ps j=some (eA p.2.2)
 |[],_,_,k,j,p,h,_=>by simp at h
 |_::_,[],_,k,j,p,_,h=>by simp at h
 |j0::js,p0::ps,kI,k,j,p,h1,h2=>by
  unfold sq
  cases k with
  |zero=>simp at h1 h2;subst h1 h2;simp
  |succ k=>
   have cj:j0≠j:=fun e=>(iJ.1 kI).1 (by rw[e];exact an (by simpa using h1))
   rw[if_neg cj]
   exact wV (iJ.1 kI).2 (by simpa using h1) (by simpa using h2)
theorem uq:∀{js:List Nat} {ps:PL} {i:Nat},i∉js→sq js ps i=none
 |[],_,i,_=>by simp[sq]
 |_::_,[],i,_=>by simp[sq]
 |j::js,p::ps,i,h=>by
  unfold sq
  rw[if_neg (fun e=>h (by simp[e]))]
  exact uq fun hi=>h (ab _ hi)
def uN(mm:MM):List Nat→Bool
 |[]=>true
 |j::r=>match iW mm j with
  |true=>false
  |false=>uN mm r
theorem uM{mm:MM}:∀{l:List Nat},uN mm l=true→∀j∈l,¬cD mm j
 |[],_,j,hj=>by cases hj
 |i::r,h,j,hj=>by
  unfold uN at h
  split at h
  ·cases h
  ·rename_i hf
   rcases ae.1 hj with rfl|hj
   ·exact fc hf
   ·exact uM h j hj
section
variable {C:Ctx} {n:Nat} {tm:TM} {mm eh:MM} {o:Oper} {d:Nat} {L l:List Oper} {T:TM→MM→Prop}
theorem vz{f:FuncId}{ι:Type}{Q:ι→Prop}{res:ι→ST}{ps:ι→PL}(TO:kQ C.P f)(js:List Nat){xs:Array Operand}{ts:Array TypeId}
 (ho:o.op=.call {callee:=.value (.func f),args:=xs,argTypes:=ts})
 (kI:j8 js=true)(rM:n0 js=true)(Cy:uN mm js=true)(hd:o.dst=some d)(hn:Nat.blt d n=true)(eK:∀x,gR (res x)=true){H:Nat→Value}{Z:Nat→Nat}{a:Act}{w:World}{K:Act→World→Prop}{Qx:Exit→Act→World→Prop}(hm:Mod C H Z n tm mm a w)
 (uJ:Calls C.P f (xs.toList.map a.eval).toArray w (Jr Q res ps w (cU C H mm)))
 (hK:∀x a' w',Q x→Has C n ((d,res x)::bw tm d) (kD js (ps x)++mm) a' w'→K a' w'):o.wp C.P a w K Qx:=by
 unfold Oper.wp
 have dQ:(execOp a.eval o).run C.P w=.ok (.enter f (xs.toList.map a.eval).toArray) w:=by
  have uC:xs.map a.eval=(xs.toList.map a.eval).toArray:=by simp[←dz]
  simp only[execOp,ho,resolve,uC,Deferred.ofValue,Act.eval,invoke,Sem.run_bind,Sem.run_pure,Result.andThen_ok,pU,kW,TO w]
 rw[dQ]
 show Calls _ _ _ _ _
 refine Calls.mono uJ ?_
 rintro e w' ⟨x,v,hq,rfl,ec,na,cL⟩
 have Ia:=mC kI
 have uH:=uM Cy
 let H':Nat→Value:=fun i=>(sq js (ps x) i).getD (H i)
 have yn:∀i,cD mm i→H' i=H i:=fun i hi=>by
  have:i∉js:=fun h=>uH i h hi
  simp[H',uq this]
 have Iz:∀(k j:Nat) (p:TypeId×Nat×PQ),js[k]? =some j→(ps x)[k]? =some p→H' j=eA p.2.2:=fun k j p h1 h2=>by
  simp[H',wV Ia h1 h2]
 have hIn:∀i,cD mm i→cD (kD js (ps x)++mm) i:=fun i ⟨p,hp,e⟩=>⟨p,b8 _ hp,e⟩
 have cC:∀(k j:Nat) (p:TypeId×Nat×PQ),js[k]? =some j→(ps x)[k]? =some p→∀b,Hb (H' j) b→w.heap.size≤b∧b < w'.heap.size:=by
  intro k j p h1 h2 b hb
  rw[Iz k j p h1 h2]at hb
  obtain⟨q,pO,db⟩:=cO.1 hb
  have hp:p∈ps x:=an h2
  refine⟨na.fresh b ⟨p,hp,q,pO,db⟩,?_⟩
  obtain⟨m,UN,Ib⟩:=aB.1 pO
  exact eM.lt (v:=q.1) (xs:=q.2) ((na.ok p hp).1 m q (by rw[aa UN,Ib])) db
 have iH:∀b,cU C H' (kD js (ps x)++mm) b→cU C H mm b∨G4 (ps x) b:=by
  rintro b (hb|⟨q,hq,db⟩)
  ·exact .inl (.inl hb)
  ·rcases aQ.1 hq with hq|hq
   ·obtain⟨k,j,p,h1,h2,rfl⟩:=ef hq
    rw[show H' (j,_).1=_ from Iz k j p h1 h2]at db
    exact .inr ⟨p,an h2,cO.1 db⟩
   ·rw[yn _ ⟨q,hq,rfl⟩]at db
    exact .inl (.inr ⟨q,hq,db⟩)
 refine hK x _ _ hq ⟨H',Z,?_⟩
 rw[hd]
 refine hm.build (fun _=>False) ec (fun _ _ h=>h.elim) (by simpa[Act.put]using hm.defers) (by simp[Act.put,hm.size]) ?_ ?_ ?_ ?_ ?_
 ·intro p hp jZ
  rcases aQ.1 hp with hp|hp
  ·obtain⟨k,j,q,h1,h2,rfl⟩:=ef hp
   have:=nZ rM j (an h1)
   simp only at jZ;omega
  ·rw[yn _ ⟨p,hp,rfl⟩];exact hm.hg p hp jZ
 ·intro p hp q hq he
  rcases aQ.1 hp with hp|hp<;>rcases aQ.1 hq with hq|hq
  ·obtain⟨k,j,r,h1,h2,rfl⟩:=ef hp
   obtain⟨k',j',r',AQ,qv,rfl⟩:=ef hq
   have:k=k':=by
    obtain⟨l1,g1⟩:=ai.1 h1
    obtain⟨l2,g2⟩:=ai.1 AQ
    exact ot Ia l1 l2 (by rw[g1,g2];exact he)
   subst this
   rw[h2]at qv;injection qv with qv;subst qv
   exact Prod.ext he J
  ·obtain⟨k,j,r,h1,h2,rfl⟩:=ef hp
   exact absurd ⟨q,hq,he.symm⟩ (uH j (an h1))
  ·obtain⟨k,j,r,h1,h2,rfl⟩:=ef hq
   exact absurd ⟨p,hp,he⟩ (uH j (an h1))
  ·exact hm.ids p hp q hq he
 ·intro p hp
  rcases aQ.1 hp with hp|hp
  ·obtain⟨k,j,r,h1,h2,rfl⟩:=ef hp
   refine .inr ⟨fun b hb=>.inl (cC k j r h1 h2 b hb),fun hMM' iA=>⟨Iz k j r h1 h2,?_⟩⟩
   obtain⟨g1,g2⟩:=na.ok r (an h2)
   exact⟨fun k q hq=>eM.mono (v:=q.1) (xs:=q.2) (g1 k q hq) (fun _ _=>rfl) (aA _) (fun _ _ _=>rfl) (fun b _ hb=>iH b hb),g2⟩
  ·exact .inl ⟨hp,yn _ ⟨p,hp,rfl⟩,rfl,fun _ _ h=>h,fun j hj j1=>⟨hIn j j1,yn j j1,rfl⟩⟩
 ·intro p hp q hq jl b Cv Cu
  rcases aQ.1 hp with hp|hp<;>rcases aQ.1 hq with hq|hq
  ·obtain⟨k,j,r,h1,h2,rfl⟩:=ef hp
   obtain⟨k',j',r',AQ,qv,rfl⟩:=ef hq
   have QO:k≠k':=fun e=>by
    subst e
    rw[h1]at AQ;injection AQ with AQ
    exact jl AQ
   rw[show H' (j,_).1=_ from Iz k j r h1 h2]at Cv
   rw[show H' (j',_).1=_ from Iz k' j' r' AQ qv]at Cu
   exact na.sep k k' r r' h2 qv QO b (cO.1 Cv) (cO.1 Cu)
  ·obtain⟨k,j,r,h1,h2,rfl⟩:=ef hp
   have:=(cC k j r h1 h2 b Cv).1
   rw[yn _ ⟨q,hq,rfl⟩]at Cu
   have:=(hm.fresh q hq b Cu).2
   omega
  ·obtain⟨k,j,r,h1,h2,rfl⟩:=ef hq
   have:=(cC k j r h1 h2 b Cu).1
   rw[yn _ ⟨p,hp,rfl⟩]at Cv
   have:=(hm.fresh p hp b Cv).2
   omega
  ·rw[yn _ ⟨p,hp,rfl⟩]at Cv
   rw[yn _ ⟨q,hq,rfl⟩]at Cu
   exact hm.sep p hp q hq jl b Cv Cu
 ·intro p hp
  rcases ae.1 hp with rfl|hp
  ·refine .inr fun _ _=>?_
   rw[gQ (by rw[hm.size];exact aY.mp hn)]
   exact cL.mono (fun i hi=>by rw[my (eK x)]at hi;cases hi) (aA _) (fun _ _ _=>rfl) (fun b _ hb=>iH b hb)
  ·obtain⟨h1,h2⟩:=b4 hp
   exact .inl ⟨p,h1,rfl,fu h2,fun j hj j1=>⟨hIn j j1,yn j j1,rfl⟩⟩
theorem zN{f:FuncId}{args:List SV}{ι:Type}{Q:ι→Prop}{res:ι→ST}{ps:ι→PL}(hc:vR C.P f args Q res ps)(js:List Nat){xs:Array Operand}{ts:Array TypeId}
 (ho:o.op=.call {callee:=.value (.func f),args:=xs,argTypes:=ts})(cE:da tm xs.toList=some args)(iV:iO [] args=some args)
 (kI:j8 js=true)(rM:n0 js=true)(Cy:uN mm js=true)(hd:o.dst=some d)(hn:Nat.blt d n=true)(eK:∀x,gR (res x)=true){a:Act}{w:World}{K:Act→World→Prop}{Qx:Exit→Act→World→Prop}(hh:Has C n tm mm a w)
 (hK:∀x a' w',Q x→Has C n ((d,res x)::bw tm d) (kD js (ps x)++mm) a' w'→K a' w'):o.wp C.P a w K Qx:=by
 obtain⟨H,Z,hm⟩:=hh
 have CF:=gz hm cE
 have hI:∀i j,rk [] i=some j→cD mm j→cD [] i∧H i=H j:=fun i j h _=>by
  have:=(rj h).2;simp at this
 have Oy:∀b,cU C H mm b→b < w.heap.size:=by
  rintro b (hb|⟨p,hp,cC⟩)
  ·exact bX (hm.m0 b hb) hm.ext.size
  ·exact(hm.fresh p hp b cC).2
 have uJ:=hc.calls w (cU C H mm) H Z _ Oy (og hI (fun b _ h=>h) iV CF)
 exact vz hc.ok js ho kI rM Cy hd hn eK hm uJ hK
theorem mu{f:FuncId}{args:List SV}{ι:Type}{Q:ι→Prop}{res:ι→ST}{ps:ι→PL}(hc:vR C.P f args Q res ps)(js:List Nat){xs:Array Operand}{ts:Array TypeId}
 (ho:o.op=.call {callee:=.value (.func f),args:=xs,argTypes:=ts})(cE:da tm xs.toList=some args)(iV:iO [] args=some args)
 (kI:j8 js=true)(rM:n0 js=true)(Cy:uN mm js=true)(hd:o.dst=some d)(hn:Nat.blt d n=true)(hg:bp L tm o=some true)(eK:∀x,gR (res x)=true)
 (k:∀x,Q x→SOps C n L.toArray l ((d,res x)::bw tm d) (kD js (ps x)++mm) T):SOps C n L.toArray (o::l) tm mm T:=by
 intro a w hh
 unfold wpList
 rw[if_pos (iw (iB hg) hh)]
 exact .inl (zN hc js ho cE iV kI rM Cy hd hn eK hh fun x a' w' hq h'=>k x hq a' w' h')
def E8(d:Nat):TM→Bool
 |[]=>true
 |(t,_)::r=>match Nat.beq t d with
  |true=>false
  |false=>E8 d r
theorem oz{d:Nat}:∀{l:TM},E8 d l=true→∀p∈l,p.1≠d
 |[],_,p,hp=>by cases hp
 |(t,s)::r,h,p,hp=>by
  unfold E8 at h
  split at h
  ·cases h
  ·rename_i hb
   rcases ae.1 hp with rfl|hp
   ·exact fun e=>by rw[show t=d from e]at hb;simp at hb
   ·exact oz h p hp
variable {ι:Type} {dc:TM} {ET:Nat→ι→TM} {ic:Nat→ι→MM} {k:Nat} {x:ι}
theorem nN(hg:bp L (bg (aK L o) (dc++ET k x)) o=some true)
 (h:∀(tm:TM) (a:Act) (w:World) (K:Act→World→Prop) (Q:Exit→Act→World→Prop),(∀p∈bg (aK L o) (dc++ET k x),p∈tm)→Has C n tm (ic k x) a w→
   (∀x' tm' a' w',(∀p∈dc,p∈tm→p∈tm')→(∀p∈ET (k+1) x',p∈tm')→Has C n tm' (ic (k+1) x') a' w'→K a' w')→o.wp C.P a w K Q):o8 C n L dc ET ic k x o:=by
 intro tm a w K Q hl he hh hK
 have eL:∀p∈bg (aK L o) (dc++ET k x),p∈tm:=fun p hp=>by
  obtain⟨h1,h2⟩:=cQ.1 hp
  exact(aQ.1 h1).elim (fun h=>hl p h h2) (he p)
 rw[if_pos (iw (iB hg) (hh.lA eL))]
 exact h tm a w K Q eL hh hK
theorem xi{Θ:dD}(bI:bz C.P Θ){t:TypeId}{p q:Operand}{z dG e:Nat}{ag:Bool}{zt:Option (List CT)}{ei:gD}{zr:List CT}{i:Nat}{zZ:Bool}{sz:Nat}{xs ys:List (List CT)}{qs:PQ}{v:Value}
 (ho:o.op=.call {callee:=.builtin .append,args:=⟨[p,q]⟩,argTypes:=⟨[t,t]⟩})(ht:aZ Θ t=some ⟨z,dG,ag,zt,.slice e⟩)(fm:aZ Θ e=some ei)(hz:ei.zero=some zr)
 (c8:Nat.beq ei.size sz=true)(mS:Nat.blt 0 ei.size=true)(hx:aW (bg (aK L o) (dc++ET k x)) p=some (.c (.val v)))(hi:getM (ic k x) i=some (.bG e sz qs))(hy:aW (bg (aK L o) (dc++ET k x)) q=some (.c (.slice zZ sz ys)))
 (iF:Nat.blt i given=true)(fO:ed i (ic k x)=true)(hd:o.dst=some d)(hn:Nat.blt d n=true)(hg:bp L (bg (aK L o) (dc++ET k x)) o=some true)(oT:eU i dc=true)(JA:E8 d dc=true)
 (m:Nat)(hk:qs[m]? =some (v,xs))(gx:xs.length+ys.length≤9223372036854775807∧(xs.length+ys.length) * ei.bytes≤140737488355328)
 (X:Value→ι)(CH:∀v',ET (k+1) (X v')=[(d,.v (.one (.c (.val v'))))])(hM:∀v',ic (k+1) (X v')=cK (ic k x) i (.bG e sz (qs.set m (v',xs++ys)))):o8 C n L dc ET ic k x o:=by
 refine nN hg fun tm a w K Q eL hh hK=>?_
 obtain⟨v',w',dQ,oS⟩:=BY (tm:=bg (aK L o) (dc++ET k x)++tm) bI ho ht fm hz c8 mS (mc hx) hi hk (mc hy) iF fO hd hn gx (hh.lA fun p hp=>(aQ.1 hp).elim (eL p) id)
 unfold Oper.wp
 rw[dQ]
 refine hK (X v') _ _ _ (fun p hp yi=>?_) (fun p hp=>?_) (by rw[hM];exact oS)
 ·exact ab _ (cd (qE (eB oT p hp) (b8 _ yi)) (oz JA p hp))
 ·rw[CH]at hp
  rw[aH.1 hp];exact ah
theorem OQ{s:ST}(h:JH C n (ic k x) o (bg (aK L o) (dc++ET k x)) d s)(hg:bp L (bg (aK L o) (dc++ET k x)) o=some true)(JA:E8 d dc=true)
 (CH:ET (k+1) x=[(d,s)])(hM:ic (k+1) x=ic k x):o8 C n L dc ET ic k x o:=by
 refine nN hg fun tm a w K Q eL hh hK=>?_
 refine h.2 tm eL a w K Q hh fun a' w' h'=>hK x _ a' w' (fun p hp yi=>?_) (fun p hp=>?_) (by rw[hM];exact h')
 ·exact ab _ (cd yi (oz JA p hp))
 ·rw[CH]at hp
  rw[aH.1 hp];exact ah
theorem IP{f:FuncId}{args:List SV}{κ:Type}{Q:κ→Prop}{res:κ→ST}{ps:κ→PL}(hc:vR C.P f args Q res ps)(js:List Nat){xs:Array Operand}{ts:Array TypeId}
 (ho:o.op=.call {callee:=.value (.func f),args:=xs,argTypes:=ts})(cE:da (bg (aK L o) (dc++ET k x)) xs.toList=some args)(iV:iO [] args=some args)
 (kI:j8 js=true)(rM:n0 js=true)(Cy:uN (ic k x) js=true)(hd:o.dst=some d)(hn:Nat.blt d n=true)(hg:bp L (bg (aK L o) (dc++ET k x)) o=some true)(JA:E8 d dc=true)(eK:∀y,gR (res y)=true)
 (X:κ→ι)(CH:∀y,ET (k+1) (X y)=[(d,res y)])(hM:∀y,ic (k+1) (X y)=kD js (ps y)++ic k x):o8 C n L dc ET ic k x o:=by
 refine nN hg fun tm a w K Q eL hh hK=>?_
 refine zN (tm:=bg (aK L o) (dc++ET k x)++tm) hc js ho (kn cE) iV kI rM Cy hd hn eK (hh.lA fun p hp=>(aQ.1 hp).elim (eL p) id) fun y a' w' _ h'=>?_
 refine hK (X y) _ a' w' (fun p hp yi=>?_) (fun p hp=>?_) (by rw[hM];exact h')
 ·exact ab _ (cd (b8 _ yi) (oz JA p hp))
 ·rw[CH]at hp
  rw[aH.1 hp];exact ah
theorem IN{Θ:dD}(bI:bz C.P Θ){t:TypeId}{ti:gD}{p q:Operand}{i off:Nat}{cs r:List SC}{s:SV}
 (ho:o.op=.store t p q)(ht:aZ Θ t=some ti)(hx:aW (bg (aK L o) (dc++ET k x)) p=some (.ptr i off))(hi:getM (ic k x) i=some (.box cs))
 (hy:dM (bg (aK L o) (dc++ET k x)) q=some s)(hk:s.cells.all SC.known=true)(c8:Nat.beq s.cells.length ti.size=true)(hs:gq cs off s.cells=some r)(hd:o.dst=none)
 (hg:bp L (bg (aK L o) (dc++ET k x)) o=some true)(CH:ET (k+1) x=[])(hM:ic (k+1) x=cK (ic k x) i (.box r)):o8 C n L dc ET ic k x o:=by
 refine nN hg fun tm a w K Q eL hh hK=>?_
 refine(mz (tm:=bg (aK L o) (dc++ET k x)++tm) bI ho ht (mc hx) hi (oG hy) hk c8 hs hd).wp a w K Q (hh.lA fun p hp=>(aQ.1 hp).elim (eL p) id) fun a' w' h'=>?_
 exact hK x _ a' w' (fun p hp yi=>b8 _ yi) (fun p hp=>by rw[CH]at hp;cases hp) (by rw[hM];exact h')
theorem xh{Θ:dD}(bI:bz C.P Θ){t:TypeId}{ti:gD}{p q:Operand}{i e sz:Nat}{qs:PQ}{v:Value}{xs:List (List CT)}{s:SV}{cs:List CT}{j:Nat}
 (ho:o.op=.store t p q)(ht:aZ Θ t=some ti)(hx:aW (bg (aK L o) (dc++ET k x)) p=some (.c (.val (vw v (j * sz)))))(hi:getM (ic k x) i=some (.bG e sz qs))
 (hy:dM (bg (aK L o) (dc++ET k x)) q=some s)(hc:hJ s.cells=some cs)(c8:Nat.beq cs.length ti.size=true)(Mf:Nat.beq ti.size sz=true)(FY:s.cells.all SC.known=true)(iF:Nat.blt i given=true)(fO:ed i (ic k x)=true)(hd:o.dst=none)
 (hg:bp L (bg (aK L o) (dc++ET k x)) o=some true)(oT:eU i dc=true)(m:Nat)(hk:qs[m]? =some (v,xs))(hj:j < xs.length)(CH:ET (k+1) x=[])(hM:ic (k+1) x=cK (ic k x) i (.bG e sz (qs.set m (v,xs.set j cs)))):o8 C n L dc ET ic k x o:=by
 refine nN hg fun tm a w K Q eL hh hK=>?_
 refine(wL (tm:=bg (aK L o) (dc++ET k x)++tm) bI ho ht (mc hx) hi hk hj (oG hy) hc c8 Mf FY iF fO hd).wp a w K Q (hh.lA fun p hp=>(aQ.1 hp).elim (eL p) id) fun a' w' h'=>?_
 exact hK x _ a' w' (fun p hp yi=>qE (eB oT p hp) (b8 _ yi)) (fun p hp=>by rw[CH]at hp;cases hp) (by rw[hM];exact h')
variable {cp:TM} {E:List Nat} {i:Nat} {mmf:Nat→MM} {TF:TM→Prop} {p q:Operand} {ty sI:TypeId}
theorem OO{st:ST}(h:∀mm',eO C n o (bg (aK L o) tm) mm' d st)(rN:fw E i=false)(hg:bp L (bg (aK L o) tm) o=some true)(hd:o.dst=some d)
 (k:FOps C n mmf L cp E (i+1) l ((d,st)::bw tm d) TF):FOps C n mmf L cp E i (o::l) tm TF:=FOps.step rN hg (fun mm' _ _=>(h mm').Jt) hd k
theorem II{Θ:dD}(bI:bz C.P Θ){r:Nat}{qs:PQ}{v:Value}{sz:Nat}{xs:List (List CT)}{kd:IntKind}{m:Int}{e e':Nat}{z dG:Nat}{ag:Bool}{zr:Option (List CT)}{ei:gD}
 (ho:o.op=.indexAddr ty p q)(ht:aZ Θ ty=some ⟨z,dG,ag,zr,.slice e⟩)(fm:aZ Θ e=some ei)(hx:aW (bg (aK L o) tm) p=some (.c (.val v)))(hi:getM (mmf i) r=some (.bG e' sz qs))(c8:Nat.beq ei.size sz=true)
 (hy:aW (bg (aK L o) tm) q=some (.c (.int kd m)))(hd:o.dst=some d)(hn:Nat.blt d n=true)(hg:bp L (bg (aK L o) tm) o=some true)(rN:fw E i=false)
 (c:Nat)(hk:qs[c]? =some (v,xs))(j:Nat)(hm:m=(j:Int))(hj:j < xs.length)(k:FOps C n mmf L cp E (i+1) l ((d,.v (.one (.c (.val (vw v (j * sz))))))::bw tm d) TF):FOps C n mmf L cp E i (o::l) tm TF:=
 FOps.step rN hg (fun mm' hb hu=>(DA bI ho ht fm c8 hx (nz hb hu _ _ hi) hk hy hm hj hd hn).Jt) hd k
theorem D3{Θ:dD}(bI:bz C.P Θ){ti:gD}{r j e sz:Nat}{qs:PQ}{v:Value}{xs:List (List CT)}{cs:List CT}{s:SV}
 (ho:o.op=.load ty p)(ht:aZ Θ ty=some ti)(hx:aW (bg (aK L o) tm) p=some (.c (.val (vw v (j * sz)))))(hi:getM (mmf i) r=some (.bG e sz qs))(hs:Nat.beq ti.size sz=true)(hd:o.dst=some d)(hn:Nat.blt d n=true)(hg:bp L (bg (aK L o) tm) o=some true)(rN:fw E i=false)
 (c:Nat)(hk:qs[c]? =some (v,xs))(hj:xs[j]? =some cs)(hv:qn SC.c ti.agg cs=some s)
 (k:FOps C n mmf L cp E (i+1) l ((d,.v s)::bw tm d) TF):FOps C n mmf L cp E i (o::l) tm TF:=
 FOps.step rN hg (fun mm' hb hu=>(Hg bI ho ht hx (nz hb hu _ _ hi) hk hj hs hv hd hn).Jt) hd k
theorem Rf{Θ:dD}(bI:bz C.P Θ){t:TypeId}{z dG e len:Nat}{ag:Bool}{zt:Option (List CT)}{ei:gD}{zr:List CT}{parts:Array (Nat×Operand)}{r:List SC}{cts:List CT}{xs:List (List CT)}{ct:CT}
 (ho:o.op=.buildSlice t len parts)(ht:aZ Θ t=some ⟨z,dG,ag,zt,.slice e⟩)(fm:aZ Θ e=some ei)(hz:ei.zero=some zr)
 (hb:Nat.ble (len * ei.size) 16777216=true)(mS:Nat.blt 0 ei.size=true)
 (hl:mY (fun i=>some (i * ei.size,ei.size)) (bg (aK L o) tm) (qM (len * ei.size)) parts.toList=some r)(hc:hJ r=some cts)(hx:kO ei.size len cts=some xs)
 (hd:o.dst=some d)(hn:Nat.blt d n=true)(hg:bp L (bg (aK L o) tm) o=some true)(rN:fw E i=false)(hle:sF (.slice true ei.size xs) ct)
 (k:FOps C n mmf L cp E (i+1) l ((d,.v (.one (.c ct)))::bw tm d) TF):FOps C n mmf L cp E i (o::l) tm TF:=
 FOps.step rN hg (fun _ _ _=>tV bI ho ht fm hz hb mS hl hc hx hle hd hn) hd k
theorem Gy{Θ:dD}(bI:bz C.P Θ){r:Nat}{qs:PQ}{v:Value}{sz:Nat}{xs:List (List CT)}{kd:IntKind}{m:Int}{e e':Nat}{z dG:Nat}{ag:Bool}{zr:Option (List CT)}{ei:gD}
 (ho:o.op=.indexAddr ty p q)(ht:aZ Θ ty=some ⟨z,dG,ag,zr,.slice e⟩)(fm:aZ Θ e=some ei)(hx:aW tm p=some (.c (.val v)))(hi:getM mm r=some (.bG e' sz qs))(c8:Nat.beq ei.size sz=true)
 (hy:aW tm q=some (.c (.int kd m)))(hd:o.dst=some d)(hn:Nat.blt d n=true)(hg:bp L tm o=some true)
 (c:Nat)(hk:qs[c]? =some (v,xs))(j:Nat)(hm:m=(j:Int))(hj:j < xs.length)(g:SOps C n L.toArray l ((d,.v (.one (.c (.val (vw v (j * sz))))))::bw tm d) mm T):SOps C n L.toArray (o::l) tm mm T:=
 dO (DA bI ho ht fm c8 hx hi hk hy hm hj hd hn).wp hg g
theorem zi{Θ:dD}(bI:bz C.P Θ){t:TypeId}{ti:gD}{r j e sz:Nat}{qs:PQ}{v:Value}{xs:List (List CT)}{s:SV}{cs:List CT}
 (ho:o.op=.store t p q)(ht:aZ Θ t=some ti)(hx:aW tm p=some (.c (.val (vw v (j * sz)))))(hi:getM mm r=some (.bG e sz qs))
 (hy:dM tm q=some s)(hc:hJ s.cells=some cs)(c8:Nat.beq cs.length ti.size=true)(Mf:Nat.beq ti.size sz=true)(FY:s.cells.all SC.known=true)(iF:Nat.blt r given=true)(fO:ed r mm=true)(hd:o.dst=none)(hg:bp L tm o=some true)
 (c:Nat)(hk:qs[c]? =some (v,xs))(hj:j < xs.length)(g:SOps C n L.toArray l (jQ r tm) (cK mm r (.bG e sz (qs.set c (v,xs.set j cs)))) T):SOps C n L.toArray (o::l) tm mm T:=
 dO (wL bI ho ht hx hi hk hj hy hc c8 Mf FY iF fO hd).wp hg g
end
end Go.Sy
namespace Go.Sy
open Go.RowKit
def PH:MM→MM→Prop
 |[],_=>True
 |(i,o)::r,mm=>getM mm i=some o∧PH r mm
theorem ix{mm:MM}:∀{l:MM},PH l mm→∀q∈l,q∈mm
 |[],_,q,hq=>by cases hq
 |(i,o)::r,h,q,hq=>by
  rcases ae.1 hq with rfl|hq
  ·exact aN h.1
  ·exact ix h.2 q hq
theorem ox{e sz:Nat}{qs J8:PQ}(h:qs=J8):F5 (.bG e sz qs) (.bG e sz J8):=h▸.refl _
theorem lH.nil{ι:Type}{C:Ctx}{n:Nat}{L:List Oper}{dc:TM}{ET:Nat→ι→TM}{ic:Nat→ι→MM}{k:Nat}:lH C n L dc ET ic k []:=trivial
theorem lH.cons{ι:Type}{C:Ctx}{n:Nat}{L:List Oper}{dc:TM}{ET:Nat→ι→TM}{ic:Nat→ι→MM}{k e:Nat}{r:List Nat}{o:Oper}(ho:rE L e=some o)(h:∀x,o8 C n L dc ET ic k x o)(g:lH C n L dc ET ic (k+1) r):lH C n L dc ET ic k (e::r):=
 ⟨fun o' dX x=>by rw[ho]at dX;injection dX with dX;subst dX;exact h x,g⟩
theorem SV.gO{i:Nat}{r:SC}(hr:r.bD=[])(s:SV):∀j∈(s.sub i r).bD,j≠i:=by
 intro j hj
 cases s with
 |one x=>exact(SC.gO hr x j hj).2
 |agg xs=>
  simp only[SV.sub,p5,SV.bD,bt,aE]at hj
  obtain⟨c,⟨c',_,rfl⟩,hj⟩:=hj
  exact(SC.gO hr c' j hj).2
theorem ST.gO{i:Nat}{r:SC}(hr:r.bD=[])(s:ST):∀j∈(s.sub i r).bD,j≠i:=by
 intro j hj
 cases s with
 |v x=>exact SV.gO hr x j hj
 |gE xs=>
  simp only[ST.sub,wb,ST.bD,bt,aE]at hj
  obtain⟨c,⟨c',_,rfl⟩,hj⟩:=hj
  exact SV.gO hr c' j hj
theorem MO.gO{i:Nat}{r:SC}(hr:r.bD=[])(o:MO):∀j∈(o.sub i r).bD,j≠i:=by
 intro j hj
 cases o with
 |box cs=>
  simp only[MO.sub,p5,MO.bD,bt,aE]at hj
  obtain⟨c,⟨c',_,rfl⟩,hj⟩:=hj
  exact(SC.gO hr c' j hj).2
 |arr=>cases hj
 |lo=>cases hj
 |bG=>cases hj
section
variable {C:Ctx} {n:Nat} {tm:TM} {mm:MM}
theorem Has.MU{a:Act}{w:World}{i e sz:Nat}{nn:Bool}{xs:List (List CT)}(hi:getM mm i=some (.arr nn e sz xs))(iF:Nat.blt i given=true)(h:Has C n tm mm a w):
 ∃v,Has C n (vt i (.c (.val v)) tm) ((i,.bG e sz [(v,xs)])::jt i (.c (.val v)) mm) a w:=by
 obtain⟨H,Z,hm⟩:=h
 obtain⟨hz,us,h1,h2,h3,h4⟩:=hm.mem _ (aN hi)
 have h1:w.ownsRow 0 e sz (H i) xs.length us:=h1
 have vI:(H i).oneCell'=true:=by
  rcases h1.2 with⟨hh,_⟩|⟨g,cap,cur,hh,_⟩<;>rw[hh]<;>rfl
 have CD:∀b,Hb (H i) b↔hblk (H i)=some b:=fun b=>by rw[l4 h1];exact pM h1 b
 refine⟨H i,Sy.jf H i (eA [(H i,xs)]),Z,?_⟩
 have na:∀b,Hb (eA [(H i,xs)]) b↔Hb (H i) b:=fun b=>by
  rw[cO,CD]
  simp
 have Br:(SC.c (.val (H i))).bD=[]:=rfl
 have dK:∀p∈jt i (.c (.val (H i))) mm,∃q∈mm,q.1=p.1∧p.2=q.2.sub i (.c (.val (H i)))∧p.1≠i:=fun p hp=>by
  obtain⟨q,hq,e1,e2,e3⟩:=ft hp
  exact⟨q,hq,e1,e2,by rw[←e1];exact e3⟩
 have qV:∀q,q≠i→Sy.jf H i (eA [(H i,xs)]) q=H q:=fun q hq=>bx _ _ hq
 have hM:∀b,cU C (Sy.jf H i (eA [(H i,xs)])) ((i,.bG e sz [(H i,xs)])::jt i (.c (.val (H i))) mm) b→cU C H mm b:=by
  rintro b (hb|⟨p,hp,cC⟩)
  ·exact .inl hb
  ·rcases ae.1 hp with rfl|hp
   ·rw[bc]at cC
    exact .inr ⟨_,aN hi,(na b).1 cC⟩
   ·obtain⟨q,hq,e1,_,e3⟩:=dK p hp
    rw[qV _ e3]at cC
    exact .inr ⟨q,hq,by rw[e1];exact cC⟩
 have hI:∀j,cD mm j→cD ((i,.bG e sz [(H i,xs)])::jt i (.c (.val (H i))) mm) j:=by
  intro j hj
  by_cases jc:j=i
  ·exact⟨_,ah,jc.symm⟩
  ·obtain⟨p,hp,e1⟩:=p4 (i:=i) (r:=.c (.val (H i))) jc hj
   exact⟨p,ab _ hp,e1⟩
 have hr:∀(M':Nat→Prop) v,v=H i→bR (cD ((i,.bG e sz [(H i,xs)])::jt i (.c (.val (H i))) mm)) H Z w M' v (.c (.val (H i))):=fun M' v hv=>by
  subst hv;exact a7.val _ vI
 refine⟨hm.defers,hm.size,hm.L9,?_,hm.ext,hm.m0,?_,?_,?_,?_,?_⟩
 ·intro p hp jZ
  rcases ae.1 hp with rfl|hp
  ·have:=aY.mp iF;simp only at jZ;omega
  ·obtain⟨q,hq,e1,_,e3⟩:=dK p hp
   rw[qV _ e3,←e1]
   exact hm.hg q hq (by rw[e1];exact jZ)
 ·intro p hp q hq he
  rcases ae.1 hp with rfl|hp<;>rcases ae.1 hq with rfl|hq
  ·rfl
  ·obtain⟨_,_,_,_,e3⟩:=dK q hq;exact absurd he.symm e3
  ·obtain⟨_,_,_,_,e3⟩:=dK p hp;exact absurd he e3
  ·obtain⟨p',oA,e1,e2,_⟩:=dK p hp
   obtain⟨q',pO,f1,f2,_⟩:=dK q hq
   have:=hm.ids p' oA q' pO (by rw[e1,f1];exact he)
   subst this
   exact Prod.ext he (by rw[e2,f2])
 ·intro p hp
  rcases ae.1 hp with rfl|hp
  ·refine⟨by rw[bc];rfl,fun k q hq=>?_,fun k l q r hq ga kl=>?_⟩
   ·cases k with
    |zero=>
     simp at hq;subst hq
     exact eM.mono (v:=H i) (xs:=xs) ⟨us,h1,h3,h4⟩ (fun _ _=>rfl) (aA _) (fun _ _ _=>rfl) (fun b _ hb=>hM b hb)
    |succ k=>simp at hq
   ·cases k with
    |zero=>
     cases l with
     |zero=>exact absurd J kl
     |succ l=>simp at ga
    |succ k=>simp at hq
  ·obtain⟨q,hq,e1,e2,e3⟩:=dK p hp
   have:=(hm.mem q hq).sJ (I':=cD ((i,.bG e sz [(H i,xs)])::jt i (.c (.val (H i))) mm)) Br (hr _) (fun j _ hj=>hI j hj) (fun b _ hb=>hM b hb)
   rw[←e2,e1]at this
   exact this.mono ⟨qV _ e3,rfl⟩ (fun _ _=>rfl) (fun j hj AP=>⟨AP,qV j (MO.gO Br q.2 j (by rw[←e2];exact hj)),rfl⟩) (aA _) (fun _ _ _=>rfl) (fun _ _ h=>h)
 ·intro p hp b hb
  rcases ae.1 hp with rfl|hp
  ·rw[bc]at hb
   exact hm.fresh _ (aN hi) b ((na b).1 hb)
  ·obtain⟨q,hq,e1,_,e3⟩:=dK p hp
   rw[qV _ e3]at hb
   rw[←e1]at hb⊢
   exact hm.fresh q hq b hb
 ·intro p hp q hq jl b cC db
  have key:∀p∈(i,MO.bG e sz [(H i,xs)])::jt i (.c (.val (H i))) mm,Hb (Sy.jf H i (eA [(H i,xs)]) p.1) b→∃p'∈mm,p'.1=p.1∧Hb (H p'.1) b:=by
   intro p hp hb
   rcases ae.1 hp with rfl|hp
   ·rw[bc]at hb
    exact⟨_,aN hi,rfl,(na b).1 hb⟩
   ·obtain⟨q,hq,e1,_,e3⟩:=dK p hp
    rw[qV _ e3,←e1]at hb
    exact⟨q,hq,e1,hb⟩
  obtain⟨p',oA,e1,yS⟩:=key p hp cC
  obtain⟨q',pO,e2,TU⟩:=key q hq db
  exact hm.sep p' oA q' pO (by rw[e1,e2];exact jl) b yS TU
 ·intro p hp
  obtain⟨q,hq,e1,e2⟩:=tv hp
  have:=(hm.tmps q hq).sJ (I':=cD ((i,.bG e sz [(H i,xs)])::jt i (.c (.val (H i))) mm)) Br (hr _) (fun j _ hj=>hI j hj) (fun b _ hb=>hM b hb)
  rw[←e2,e1]at this
  exact this.mono (fun j hj AP=>⟨AP,qV j (ST.gO Br q.2 j (by rw[←e2];exact hj)),rfl⟩) (aA _) (fun _ _ _=>rfl) (fun _ _ h=>h)
theorem Has.SD{a:Act}{w:World}(t:Nat)(ht:iX tm t=some (.v (.one (.c .bK))))(h:Has C n tm mm a w):Has C n ((t,.v (.one (.c (.val (.slice none 0 0)))))::bw tm t) mm a w:=by
 obtain⟨H,Z,hm⟩:=h
 refine⟨H,Z,{hm with tmps:=fun p hp=>?_}⟩
 rcases ae.1 hp with rfl|hp
 ·have h1:=hm.tmps _ (gk ht)
  have h2:a.tmps.getD t undef=.slice none 0 0:=a7.kF h1
  show a7 _ _ _ _
  rw[h2];exact a7.val _ J
 ·exact hm.tmps p (b4 hp).1
variable {f:FuncId} {R:Ending→World→Prop} {k:List Item} {L l:List Oper} {T:TM→MM→Prop}
theorem yp(t:Nat)(ht:iX tm t=some (.v (.one (.c .bK))))(g:Goes C f n R k ((t,.v (.one (.c (.val (.slice none 0 0)))))::bw tm t) mm):Goes C f n R k tm mm:=g.mono fun _ _ h=>h.SD t ht
theorem l7(i:Nat){e sz:Nat}{nn:Bool}{xs:List (List CT)}(hi:getM mm i=some (.arr nn e sz xs))(iF:Nat.blt i given=true)
 (g:∀v,Goes C f n R k (vt i (.c (.val v)) tm) ((i,.bG e sz [(v,xs)])::jt i (.c (.val v)) mm)):Goes C f n R k tm mm:=fun a w hh=>by
 obtain⟨v,h⟩:=hh.MU hi iF
 exact g v a w h
theorem kt(j e sz:Nat)(hj:Nat.blt j given=true)(hf:iW mm j=false)(g:Goes C f n R k tm ((j,.bG e sz [])::mm)):Goes C f n R k tm mm:=g.mono fun _ _ h=>h.Kw j e sz hj hf
theorem l8(i:Nat){e sz:Nat}{qs:PQ}(hi:getM mm i=some (.bG e sz qs))(iF:Nat.blt i given=true)(fO:ed i mm=true)(oT:eU i tm=true)
 (g:Goes C f n R k tm (cK mm i (.bG e sz (qs++[(.slice none 0 0,[])])))):Goes C f n R k tm mm:=g.mono fun _ _ h=>h.Kv hi iF fO oT
theorem ID(i j:Nat){cs:List SC}(hi:getM mm i=some (.box cs))(hj:py cs j=some (.c .bK))(g:Goes C f n R k tm (cK mm i (.box (mr cs j (.c (.val (.slice none 0 0))))))):Goes C f n R k tm mm:=
 g.mono fun _ _ h=>h.Nq hi hj
theorem oF(i j c:Nat){e sz:Nat}{v:Value}{xs:List (List CT)}{cs:List SC}(j1:Nat.beq i j=false)(hi:getM mm i=some (.bG e sz [(v,xs)]))(iF:Nat.blt i given=true)(hj:getM mm j=some (.box cs))
 (hc:py cs c=some (.c (.val v)))(fO:ed i mm=true)(oT:eU i tm=true)(g:Goes C f n R k tm (cK (eT [i] mm) j (.box (mr cs c (.c (.slice false sz xs)))))):Goes C f n R k tm mm:=
 g.mono fun _ _ h=>h.Ln i j c j1 hi iF hj hc fO oT
theorem xd(i j:Nat){e sz e':Nat}{qs:PQ}{v:Value}{rows:List (List CT)}(j1:Nat.beq i j=false)(hi:getM mm i=some (.bG e sz qs))(iF:Nat.blt i given=true)(hj:getM mm j=some (.bG e' 1 [(v,rows)]))
 (fO:ed i mm=true)(oT:eU i tm=true)(qq:rows=qs.map fun q=>[.val q.1])(g:Goes C f n R k tm (cK (eT [i] mm) j (.bG e' 1 [(v,qs.map fun q=>[.slice false sz q.2])]))):Goes C f n R k tm mm:=
 g.mono fun _ _ h=>h.Lm i j j1 hi iF hj fO oT qq
theorem Lg(i j:Nat){e sz:Nat}{qs rs:PQ}(j1:Nat.beq i j=false)(hi:getM mm i=some (.bG e sz qs))(hj:getM mm j=some (.bG e sz rs))(iF:Nat.blt i given=true)(rM:Nat.blt j given=true)
 (fO:ed i mm=true)(oT:eU i tm=true)(N3:ed j mm=true)(N2:eU j tm=true)(g:Goes C f n R k tm (cK (eT [i] mm) j (.bG e sz (rs++qs)))):Goes C f n R k tm mm:=
 g.mono fun _ _ h=>h.merge i j j1 hi hj iF rM fO oT N3 N2
theorem Ra(i j:Nat){cs:List SC}{x:CT}(y:CT)(hi:getM mm i=some (.box cs))(hj:py cs j=some (.c x))(hle:sF x y)(g:Goes C f n R k tm (cK mm i (.box (mr cs j (.c y))))):Goes C f n R k tm mm:=
 g.mono fun _ _ h=>h.SF hi hj hle
end
section
variable {C:Ctx} {n:Nat} {mmf:Nat→MM} {L l:List Oper} {cp tm:TM} {E:List Nat} {i:Nat} {o:Oper} {d:Nat} {TF:TM→Prop} {p q:Operand} {ty sI:TypeId}
end
end Go.Sy
namespace Go.Sy
open Go.RowKit
section
variable {C:Ctx} {n:Nat} {mm:MM} {o:Oper} {d:Nat} {x y:Operand}
end
section
variable {C:Ctx} {n:Nat} {eh:MM} {L l:List Oper} {cp tm:TM} {R:List Rec} {i:Nat} {o:Oper} {d t:Nat} {T:TM→MM→Prop} {x y:Operand}
end
section
variable {ι:Type} {C:Ctx} {n:Nat} {L:List Oper} {dc:TM} {ET:Nat→ι→TM} {ic:Nat→ι→MM} {k:Nat} {x:ι} {o:Oper} {d:Nat} {p q:Operand}
end
section
variable {C:Ctx} {n:Nat} {tm:TM} {mm:MM} {o:Oper} {d:Nat} {x y:Operand}
end
section
variable {C:Ctx} {n:Nat} {tm:TM} {mm:MM} {L l:List Oper} {T:TM→MM→Prop} {o:Oper} {d:Nat} {x y:Operand}
end
section
variable {C:Ctx} {n:Nat} {tm:TM} {mm:MM} {f:FuncId} {R:Ending→World→Prop} {k:List Item}
theorem Has.Ll{a:Act}{w:World}(i t:Nat){e sz:Nat}{v:Value}{xs:List (List CT)}(hi:getM mm i=some (.bG e sz [(v,xs)]))(iF:Nat.blt i given=true)(ht:iX tm t=some (.v (.one (.c (.val v)))))
 (fO:ed i mm=true)(oT:eU i tm=true)(h:Has C n tm mm a w):Has C n ((t,.v (.one (.c (.slice false sz xs))))::bw tm t) (eT [i] mm) a w:=by
 obtain⟨H,Z,hm⟩:=h
 obtain⟨hH,dj⟩:=hm.mem _ (aN hi)
 have hH:H i=eA [(v,xs)]:=hH
 have dj:ea w (cU C H mm) e sz [(v,xs)]:=dj
 have dK:∀p∈eT [i] mm,p∈mm∧p.1≠i:=fun p hp=>by
  obtain⟨g1,g2⟩:=dm.1 hp
  exact⟨g1,by simpa using g2⟩
 have pE:∀q,q≠i→cD mm q→cD (eT [i] mm) q:=fun q hq ⟨p,hp,e⟩=>⟨p,dm.2 ⟨hp,by simpa[e]using hq⟩,e⟩
 have hM:∀b,b < w.heap.size→cU C H (eT [i] mm) b→cU C H mm b:=by
  rintro b _ (hb|⟨p,hp,cC⟩)
  ·exact .inl hb
  ·exact .inr ⟨p,(dK p hp).1,cC⟩
 have Tc:∀b,hblk v=some b→¬cU C H (eT [i] mm) b:=by
  rintro b db (hb|⟨p,hp,cC⟩)
  ·have hf:=hm.fresh _ (aN hi) b (by rw[show H (i,_).1=_ from hH];exact cO.2 ⟨_,ah,db⟩)
   have:=hm.m0 b hb
   have:=aY.mp iF
   rcases hf.1 with⟨_,h2|h2⟩|⟨h1,_⟩
   ·omega
   ·exact(C.hV b h2).2 hb
   ·simp only at h1;omega
  ·exact hm.sep p (dK p hp).1 _ (aN hi) (dK p hp).2 b cC (by rw[show H (i,_).1=_ from hH];exact cO.2 ⟨_,ah,db⟩)
 have cL:a7 w (cU C H (eT [i] mm)) v (.slice false sz xs):=(dj.row (k:=0) J).frozen hM Tc
 refine⟨H,Z,hm.defers,hm.size,hm.L9,fun p hp=>hm.hg p (dK p hp).1,hm.ext,hm.m0,fun p hp q hq=>hm.ids p (dK p hp).1 q (dK q hq).1,fun p hp=>?_,
  fun p hp=>hm.fresh p (dK p hp).1,fun p hp q hq=>hm.sep p (dK p hp).1 q (dK q hq).1,fun p hp=>?_⟩
 ·have k1:=(dK p hp).1
  exact(hm.mem p k1).mono ⟨rfl,rfl⟩ (fun _ _=>rfl) (fun q hq qu=>⟨pE q (fun e=>dP fO k1 (e▸hq)) qu,rfl,rfl⟩) (aA _) (fun _ _ _=>rfl) hM
 ·rcases ae.1 hp with rfl|hp
  ·have hv:a.tmps.getD t undef=v:=a7.iM (hm.tmps _ (gk ht))
   show a7 w _ (a.tmps.getD t undef) _
   rw[hv]
   exact cL
  ·have hp:=(b4 hp).1
   exact(hm.tmps p hp).mono (fun q hq qu=>⟨pE q (fun e=>eB oT p hp (e▸hq)) qu,rfl,rfl⟩) (aA _) (fun _ _ _=>rfl) hM
theorem xc(i t:Nat){e sz:Nat}{v:Value}{xs:List (List CT)}(hi:getM mm i=some (.bG e sz [(v,xs)]))(iF:Nat.blt i given=true)(ht:iX tm t=some (.v (.one (.c (.val v)))))
 (fO:ed i mm=true)(oT:eU i tm=true)(g:Goes C f n R k ((t,.v (.one (.c (.slice false sz xs))))::bw tm t) (eT [i] mm)):Goes C f n R k tm mm:=g.mono fun _ _ h=>h.Ll i t hi iF ht fO oT
end
end Go.Sy
namespace Go.Sy
open Go.RowKit
section
variable {I I':Nat→Prop} {H H':Nat→Value} {Z Z':Nat→Nat} {w w':World} {M M':Nat→Prop} {v:Value}
end
section
variable {C:Ctx} {n:Nat} {tm:TM} {mm:MM} {H:Nat→Value} {Z:Nat→Nat} {a:Act} {w:World}
end
section
variable {C:Ctx} {n:Nat} {tm:TM} {mm:MM} {o:Oper} {d:Nat} {L l:List Oper} {T:TM→MM→Prop}
end
section
variable {C:Ctx} {n:Nat} {tm:TM} {mm:MM} {f:FuncId} {R:Ending→World→Prop} {k:List Item}
theorem Has.Sv{a:Act}{w:World}(i j t:Nat){e sz:Nat}{v:Value}{xs:List (List CT)}(hi:getM mm i=some (.bG e sz [(v,xs)]))(iF:Nat.blt i given=true)(ht:iX tm t=some (.v (.one (.c (.val v)))))
 (rM:Nat.blt j given=true)(Cy:iW mm j=false)(fO:ed i mm=true)(oT:eU i tm=true)(h:Has C n tm mm a w):Has C n ((t,.v (.one (.own j)))::bw tm t) ((j,.arr false e sz xs)::eT [i] mm) a w:=by
 obtain⟨H,Z,hm⟩:=h
 obtain⟨hH,dj⟩:=hm.mem _ (aN hi)
 have hH:H i=eA [(v,xs)]:=hH
 have dj:ea w (cU C H mm) e sz [(v,xs)]:=dj
 obtain⟨us,h1,h3,h4⟩:=dj.row (k:=0) J
 have jc:=fc Cy
 have Tn:j≠i:=fun e=>jc (e▸⟨_,aN hi,rfl⟩)
 have dK:∀p∈eT [i] mm,p∈mm∧p.1≠i∧p.1≠j:=fun p hp=>by
  obtain⟨g1,g2⟩:=dm.1 hp
  exact⟨g1,by simpa using g2,fun e=>jc ⟨p,g1,e⟩⟩
 have qV:∀q,q≠j→Sy.jf H j v q=H q:=fun q hq=>bx _ _ hq
 have Mu:∀q,q≠j→Sy.jf Z j sz q=Z q:=fun q hq=>bx _ _ hq
 have Cs:∀b,Hb v b→Hb (H i) b:=fun b hb=>by
  rw[hH];exact cO.2 ⟨_,ah,by rw[l4 h1];exact(pM h1 b).1 hb⟩
 have pE:∀q,q≠i→cD mm q→cD ((j,.arr false e sz xs)::eT [i] mm) q:=fun q hq ⟨p,hp,e⟩=>⟨p,ab _ (dm.2 ⟨hp,by simpa[e]using hq⟩),e⟩
 refine⟨Sy.jf H j v,Sy.jf Z j sz,hm.build (fun _=>False) (Ext.refl _ w) (fun _ _ h=>h.elim) hm.defers hm.size ?_ ?_ ?_ ?_ ?_⟩
 ·intro p hp jZ
  rcases ae.1 hp with rfl|hp
  ·have:=aY.mp rM;simp only at jZ;omega
  ·rw[qV _ (dK p hp).2.2];exact hm.hg p (dK p hp).1 jZ
 ·intro p hp q hq he
  rcases ae.1 hp with rfl|hp<;>rcases ae.1 hq with rfl|hq
  ·rfl
  ·exact absurd he.symm (dK q hq).2.2
  ·exact absurd he (dK p hp).2.2
  ·exact hm.ids p (dK p hp).1 q (dK q hq).1 he
 ·intro p hp
  rcases ae.1 hp with rfl|hp
  ·refine .inr ⟨fun b hb=>?_,fun iH _=>?_⟩
   ·rw[bc]at hb
    exact .inr ⟨_,aN hi,Cs b hb,.inr ⟨aY.mp iF,aY.mp rM⟩⟩
   ·refine⟨bc _ _ _,us,by rw[bc];exact h1,fun h=>(by cases h),h3,fun k x hx m c hc=>?_⟩
    obtain⟨u,hu,hr⟩:=h4 k x hx m c hc
    exact⟨u,hu,hr.mono (aA _) (fun _ _ _=>rfl) iH⟩
  ·obtain⟨k1,k2,k3⟩:=dK p hp
   exact .inl ⟨k1,qV _ k3,Mu _ k3,fun _ _ h=>h,fun q hq qu=>⟨pE q (fun e=>dP fO k1 (e▸hq)) qu,qV q (fun e=>jc (e▸qu)),Mu q (fun e=>jc (e▸qu))⟩⟩
 ·intro p hp q hq jl b cC db
  rcases ae.1 hp with rfl|hp<;>rcases ae.1 hq with rfl|hq
  ·exact jl J
  ·rw[bc]at cC
   rw[qV _ (dK q hq).2.2]at db
   exact hm.sep _ (aN hi) q (dK q hq).1 (Ne.symm (dK q hq).2.1) b (Cs b cC) db
  ·rw[bc]at db
   rw[qV _ (dK p hp).2.2]at cC
   exact hm.sep p (dK p hp).1 _ (aN hi) (dK p hp).2.1 b cC (Cs b db)
  ·rw[qV _ (dK p hp).2.2]at cC
   rw[qV _ (dK q hq).2.2]at db
   exact hm.sep p (dK p hp).1 q (dK q hq).1 jl b cC db
 ·intro p hp
  rcases ae.1 hp with rfl|hp
  ·refine .inr fun _ _=>?_
   have hv:a.tmps.getD t undef=v:=a7.iM (hm.tmps _ (gk ht))
   exact⟨⟨_,ah,rfl⟩,by show a.tmps.getD t undef=_;rw[hv,bc]⟩
  ·have hp:=(b4 hp).1
   exact .inl ⟨p,hp,rfl,rfl,fun q hq qu=>⟨pE q (fun e=>eB oT p hp (e▸hq)) qu,qV q (fun e=>jc (e▸qu)),Mu q (fun e=>jc (e▸qu))⟩⟩
end
section
variable {C:Ctx} {n:Nat} {tm:TM} {mm:MM} {f:FuncId} {R:Ending→World→Prop} {k:List Item}
end
section
variable {C:Ctx} {n:Nat} {L:List Oper} {tm:TM}
end
section
variable {C:Ctx} {n:Nat} {tm:TM} {mm:MM} {L l:List Oper} {T:TM→MM→Prop} {o:Oper} {d:Nat} {x:Operand}
end
theorem dy.args{P:Program}{f:FuncId}{pre post:List (List CT)}{args args':List SV}{res:ST}(h:dy P f pre args res post)(hl:vP args' args):dy P f pre args' res post:=
 ⟨h.ok,fun w M0 H Z vs hp hv=>h.calls w M0 H Z vs hp (hl.rep hv)⟩
theorem Pb.args{P:Program}{f:FuncId}{pre post:List (List CT)}{args args':List SV}{Q:ST→Prop}(h:Pb P f pre args Q post)(hl:vP args' args):Pb P f pre args' Q post:=
 ⟨h.ok,fun w M0 H Z vs hp hv=>h.calls w M0 H Z vs hp (hl.rep hv)⟩
end Go.Sy
namespace Go.Sy
open Go.RowKit
def cy:List (Nat×Nat)→Nat→Nat
 |[],i=>i
 |(a,b)::r,i=>match Nat.beq a i with
  |true=>b
  |false=>cy r i
def J2(ren:List (Nat×Nat)):List Nat→List Nat
 |[]=>[]
 |i::l=>cy ren i::J2 ren l
def BJ(ren:List (Nat×Nat)):SC→SC
 |.c x=>.c x
 |.lit b=>.lit b
 |.ptr i o=>.ptr (cy ren i) o
 |.iu i k o=>.iu (cy ren i) k o
 |.hC cs=>.hC cs
 |.own i=>.own (cy ren i)
 |.mp i=>.mp (cy ren i)
 |.td i n=>.td (cy ren i) n
 |.ku f l=>.ku f (J2 ren l)
 |.any=>.any
def xM(ren:List (Nat×Nat)):List SC→List SC
 |[]=>[]
 |a::l=>BJ ren a::xM ren l
def Ju(ren:List (Nat×Nat)):SV→SV
 |.one s=>.one (BJ ren s)
 |.agg l=>.agg (xM ren l)
def zn(ren:List (Nat×Nat)):List SV→List SV
 |[]=>[]
 |a::l=>Ju ren a::zn ren l
def M3(ren:List (Nat×Nat)):ST→ST
 |.v s=>.v (Ju ren s)
 |.gE l=>.gE (zn ren l)
def yL(ren:List (Nat×Nat)):MO→MO
 |.box cs=>.box (xM ren cs)
 |.arr nn e sz xs=>.arr nn e sz xs
 |.lo es=>.lo es
 |.bG e sz qs=>.bG e sz qs
def RI(ren:List (Nat×Nat)):MM→MM
 |[]=>[]
 |(i,o)::r=>(cy ren i,yL ren o)::RI ren r
theorem sX(ren:List (Nat×Nat)):∀l,J2 ren l=l.map (cy ren)
 |[]=>rfl
 |i::l=>by rw[J2,sX ren l];rfl
theorem mw(ren:List (Nat×Nat)):∀l,xM ren l=l.map (BJ ren)
 |[]=>rfl
 |i::l=>by rw[xM,mw ren l];rfl
theorem qb(ren:List (Nat×Nat)):∀l,zn ren l=l.map (Ju ren)
 |[]=>rfl
 |i::l=>by rw[zn,qb ren l];rfl
theorem BI(ren:List (Nat×Nat)):∀l:MM,RI ren l=l.map fun p=>(cy ren p.1,yL ren p.2)
 |[]=>rfl
 |(i,o)::l=>by rw[RI,BI ren l];rfl
def PX:SC→Bool
 |.iu _ _ _=>false
 |_=>true
def G5:List SC→Bool
 |[]=>true
 |a::l=>match PX a with
  |true=>G5 l
  |false=>false
def PV:SV→Bool
 |.one s=>PX s
 |.agg l=>G5 l
def BQ:List SV→Bool
 |[]=>true
 |a::l=>match PV a with
  |true=>BQ l
  |false=>false
def PW:ST→Bool
 |.v s=>PV s
 |.gE l=>BQ l
def RJ:MO→Bool
 |.box cs=>G5 cs
 |.arr _ _ _ _=>false
 |_=>true
def Pe:MM→Bool
 |[]=>true
 |(_,o)::r=>match RJ o with
  |true=>Pe r
  |false=>false
theorem lP:∀{l:List SC},G5 l=true→∀s∈l,PX s=true
 |[],_,s,h=>by cases h
 |a::l,h,s,hs=>by
  unfold G5 at h
  split at h
  ·rename_i ha
   rcases ae.1 hs with rfl|hs
   ·exact ha
   ·exact lP h s hs
  ·cases h
theorem rv:∀{l:List SV},BQ l=true→∀s∈l,PV s=true
 |[],_,s,h=>by cases h
 |a::l,h,s,hs=>by
  unfold BQ at h
  split at h
  ·rename_i ha
   rcases ae.1 hs with rfl|hs
   ·exact ha
   ·exact rv h s hs
  ·cases h
theorem qf:∀{l:MM},Pe l=true→∀p∈l,RJ p.2=true
 |[],_,p,h=>by cases h
 |(i,o)::l,h,p,hp=>by
  unfold Pe at h
  split at h
  ·rename_i ha
   rcases ae.1 hp with rfl|hp
   ·exact ha
   ·exact qf h p hp
  ·cases h
section
variable {ren:List (Nat×Nat)} {I I':Nat→Prop} {H H':Nat→Value} {Z Z':Nat→Nat} {w:World} {M M':Nat→Prop} {v:Value}
theorem tF{s:SC}(hp:PX s=true)(h:bR I H Z w M v s)(hI:∀i∈s.bD,I i→I' (cy ren i)∧H' (cy ren i)=H i)
 (hM:∀b,b < w.heap.size→M' b→M b):bR I' H' Z' w M' v (BJ ren s):=by
 cases s with
 |c x=>exact a7.mono h (aA _) (fun _ _ _=>rfl) hM
 |lit b=>exact h
 |ptr i off=>
  obtain⟨h1,b,h2,h3⟩:=h
  obtain⟨k1,k2⟩:=hI i (by simp[SC.bD]) h1
  exact⟨k1,b,by rw[k2];exact h2,h3⟩
 |td i n=>
  obtain⟨h1,b,h2,h3⟩:=h
  obtain⟨k1,k2⟩:=hI i (by simp[SC.bD]) h1
  exact⟨k1,b,by rw[k2];exact h2,h3⟩
 |iu i k off=>cases hp
 |hC cs=>
  obtain⟨ad,h1,h2,h3,h4,h5⟩:=h
  refine⟨ad,h1,h2,h3,fun hm=>h4 (hM _ h3 hm),fun j c hc=>?_⟩
  obtain⟨u,hu,hr⟩:=h5 j c hc
  exact⟨u,hu,hr.mono (aA _) (fun _ _ _=>rfl) hM⟩
 |own i=>
  obtain⟨h1,h2⟩:=h
  obtain⟨k1,k2⟩:=hI i (by simp[SC.bD]) h1
  exact⟨k1,by rw[k2];exact h2⟩
 |mp i=>
  obtain⟨h1,h2⟩:=h
  obtain⟨k1,k2⟩:=hI i (by simp[SC.bD]) h1
  exact⟨k1,by rw[k2];exact h2⟩
 |ku f df=>
  obtain⟨h1,vs,h2,h3,h4⟩:=h
  have hr:BJ ren (.ku f df)=.ku f (df.map (cy ren)):=by rw[BJ,sX]
  rw[hr]
  refine⟨fun i hi=>?_,vs,h2,by rw[aw];exact h3,fun j i hj=>?_⟩
  ·obtain⟨k,hk,rfl⟩:=aE.1 hi
   exact(hI k hk (h1 k hk)).1
  ·rw[aI]at hj
   cases hq:df[j]? with
   |none=>rw[hq]at hj;cases hj
   |some k=>
    rw[hq]at hj;injection hj with hj;subst hj
    have hm:k∈df:=an hq
    rw[(hI k hm (h1 k hm)).2]
    exact h4 j k hq
 |any=>trivial
theorem pq{s:SC}(hp:PX s=true)(h:bR I H Z w M v (BJ ren s))(hI:∀i∈s.bD,I' i)
 (hM:∀b,b < w.heap.size→M' b→M b):bR I' (fun i=>H (cy ren i)) Z' w M' v s:=by
 cases s with
 |c x=>exact a7.mono h (aA _) (fun _ _ _=>rfl) hM
 |lit b=>exact h
 |ptr i off=>
  obtain⟨h1,b,h2,h3⟩:=h
  exact⟨hI i (by simp[SC.bD]),b,h2,h3⟩
 |td i n=>
  obtain⟨h1,b,h2,h3⟩:=h
  exact⟨hI i (by simp[SC.bD]),b,h2,h3⟩
 |iu i k off=>cases hp
 |hC cs=>
  obtain⟨ad,h1,h2,h3,h4,h5⟩:=h
  refine⟨ad,h1,h2,h3,fun hm=>h4 (hM _ h3 hm),fun j c hc=>?_⟩
  obtain⟨u,hu,hr⟩:=h5 j c hc
  exact⟨u,hu,hr.mono (aA _) (fun _ _ _=>rfl) hM⟩
 |own i=>
  obtain⟨h1,h2⟩:=h
  exact⟨hI i (by simp[SC.bD]),h2⟩
 |mp i=>
  obtain⟨h1,h2⟩:=h
  exact⟨hI i (by simp[SC.bD]),h2⟩
 |ku f df=>
  have hr:BJ ren (.ku f df)=.ku f (df.map (cy ren)):=by rw[BJ,sX]
  rw[hr]at h
  obtain⟨h1,vs,h2,h3,h4⟩:=h
  refine⟨fun i hi=>hI i hi,vs,h2,by rw[aw]at h3;exact h3,fun j i hj=>?_⟩
  exact h4 j (cy ren i) (by rw[aI,hj];rfl)
 |any=>trivial
theorem zq{s:SV}(hp:PV s=true)(h:cF I H Z w M v s)(hI:∀i∈s.bD,I i→I' (cy ren i)∧H' (cy ren i)=H i)
 (hM:∀b,b < w.heap.size→M' b→M b):cF I' H' Z' w M' v (Ju ren s):=by
 cases s with
 |one s=>exact tF (s:=s) hp h hI hM
 |agg l=>
  obtain⟨vs,h1,h2,h3⟩:=h
  show cF I' H' Z' w M' v (.agg (xM ren l))
  rw[mw]
  refine⟨vs,h1,by simpa using h2,fun j c hc=>?_⟩
  rw[aI]at hc
  cases hq:l[j]? with
  |none=>rw[hq]at hc;cases hc
  |some k=>
   rw[hq]at hc;injection hc with hc;subst hc
   obtain⟨u,hu,hr⟩:=h3 j k hq
   exact⟨u,hu,tF (lP hp k (an hq)) hr (fun i hi=>hI i (by simp only[SV.bD,bt];exact⟨k,an hq,hi⟩)) hM⟩
theorem BL{s:SV}(hp:PV s=true)(h:cF I H Z w M v (Ju ren s))(hI:∀i∈s.bD,I' i)
 (hM:∀b,b < w.heap.size→M' b→M b):cF I' (fun i=>H (cy ren i)) Z' w M' v s:=by
 cases s with
 |one s=>exact pq (s:=s) hp h hI hM
 |agg l=>
  have h:cF I H Z w M v (.agg (xM ren l)):=h
  rw[mw]at h
  obtain⟨vs,h1,h2,h3⟩:=h
  refine⟨vs,h1,by simpa using h2,fun j c hc=>?_⟩
  obtain⟨u,hu,hr⟩:=h3 j (BJ ren c) (by rw[aI,hc];rfl)
  exact⟨u,hu,pq (lP hp c (an hc)) hr (fun i hi=>hI i (by simp only[SV.bD,bt];exact⟨c,an hc,hi⟩)) hM⟩
theorem zu{s:ST}(hp:PW s=true)(h:fy I H Z w M v s)(hI:∀i∈s.bD,I i→I' (cy ren i)∧H' (cy ren i)=H i)
 (hM:∀b,b < w.heap.size→M' b→M b):fy I' H' Z' w M' v (M3 ren s):=by
 cases s with
 |v s=>exact zq (s:=s) hp h hI hM
 |gE l=>
  obtain⟨vs,h1,h2,h3⟩:=h
  show fy I' H' Z' w M' v (.gE (zn ren l))
  rw[qb]
  refine⟨vs,h1,by simpa using h2,fun j c hc=>?_⟩
  rw[aI]at hc
  cases hq:l[j]? with
  |none=>rw[hq]at hc;cases hc
  |some k=>
   rw[hq]at hc;injection hc with hc;subst hc
   obtain⟨u,hu,hr⟩:=h3 j k hq
   exact⟨u,hu,zq (rv hp k (an hq)) hr (fun i hi=>hI i (by simp only[ST.bD,bt];exact⟨k,an hq,hi⟩)) hM⟩
theorem ea.mask{e sz:Nat}{qs:PQ}(h:ea w M e sz qs)(hM:∀b,b < w.heap.size→M' b→M b):ea w M' e sz qs:=
 ⟨fun k q hq=>eM.mono (v:=q.1) (xs:=q.2) (h.1 k q hq) (fun _ _=>rfl) (aA _) (fun _ _ _=>rfl) hM,h.2⟩
theorem Ad{i:Nat}{o:MO}(hp:RJ o=true)(h:eb I H Z w M i o)(hh:H' (cy ren i)=H i)(hI:∀j∈o.bD,I j→I' (cy ren j)∧H' (cy ren j)=H j)
 (hM:∀b,b < w.heap.size→M' b→M b):eb I' H' Z' w M' (cy ren i) (yL ren o):=by
 cases o with
 |box cs=>
  obtain⟨b,ty,vs,h1,h2,h3,h4⟩:=h
  show eb I' H' Z' w M' (cy ren i) (.box (xM ren cs))
  rw[mw]
  refine⟨b,ty,vs,by rw[hh];exact h1,h2,by simpa using h3,fun j c hc=>?_⟩
  rw[aI]at hc
  cases hq:cs[j]? with
  |none=>rw[hq]at hc;cases hc
  |some k=>
   rw[hq]at hc;injection hc with hc;subst hc
   obtain⟨u,hu,ho,hr⟩:=h4 j k hq
   exact⟨u,hu,ho,tF (lP hp k (an hq)) hr (fun i hi=>hI i (by simp only[MO.bD,bt];exact⟨k,an hq,hi⟩)) hM⟩
 |arr nn e sz xs=>cases hp
 |lo es=>
  obtain⟨r,JG,ck,h1,h2,h3,h4⟩:=h
  refine⟨r,JG,ck,by rw[hh];exact h1,h2,h3,fun j p hp=>?_⟩
  obtain⟨en,he,hk,hv⟩:=h4 j p hp
  exact⟨en,he,hk.mono (aA _) (fun _ _ _=>rfl) hM,hv.mono (aA _) (fun _ _ _=>rfl) hM⟩
 |bG e sz qs=>
  obtain⟨h1,h2⟩:=h
  exact⟨by rw[hh];exact h1,ea.mask h2 hM⟩
theorem Ce{i:Nat}{o:MO}(hp:RJ o=true)(h:eb I H Z w M (cy ren i) (yL ren o))(hI:∀j∈o.bD,I' j)
 (hM:∀b,b < w.heap.size→M' b→M b):eb I' (fun i=>H (cy ren i)) Z' w M' i o:=by
 cases o with
 |box cs=>
  have h:eb I H Z w M (cy ren i) (.box (xM ren cs)):=h
  rw[mw]at h
  obtain⟨b,ty,vs,h1,h2,h3,h4⟩:=h
  refine⟨b,ty,vs,h1,h2,by simpa using h3,fun j c hc=>?_⟩
  obtain⟨u,hu,ho,hr⟩:=h4 j (BJ ren c) (by rw[aI,hc];rfl)
  exact⟨u,hu,ho,pq (lP hp c (an hc)) hr (fun i hi=>hI i (by simp only[MO.bD,bt];exact⟨c,an hc,hi⟩)) hM⟩
 |arr nn e sz xs=>cases hp
 |lo es=>
  obtain⟨r,JG,ck,h1,h2,h3,h4⟩:=h
  refine⟨r,JG,ck,h1,h2,h3,fun j p hp=>?_⟩
  obtain⟨en,he,hk,hv⟩:=h4 j p hp
  exact⟨en,he,hk.mono (aA _) (fun _ _ _=>rfl) hM,hv.mono (aA _) (fun _ _ _=>rfl) hM⟩
 |bG e sz qs=>
  obtain⟨h1,h2⟩:=h
  exact⟨h1,ea.mask h2 hM⟩
end
structure RC(w:World)(M0:Nat→Prop)(H:Nat→Value)(Z:Nat→Nat)(mm:MM):Prop where
 m0:∀b,M0 b→b < w.heap.size
 Va:∀b,bP H mm b→¬M0 b
 mem:∀p∈mm,eb (cD mm) H Z w (fun b=>M0 b∨bP H mm b) p.1 p.2
 lt:∀p∈mm,∀b,Hb (H p.1) b→b < w.heap.size
 sep:∀p∈mm,∀q∈mm,p.1≠q.1→∀b,Hb (H p.1) b→¬Hb (H q.1) b
structure RD(w w':World)(M0:Nat→Prop)(H H':Nat→Value)(Z:Nat→Nat)(pre post:MM):Prop where
 hd:∀p∈post,given≤p.1→H' p.1=H p.1
 mem:∀p∈post,eb (cD post) H' Z w' (fun b=>M0 b∨bP H' post b) p.1 p.2
 lt:∀p∈post,∀b,Hb (H' p.1) b→b < w'.heap.size∧(w.heap.size≤b∨∃q∈pre,Hb (H q.1) b∧(p.1=q.1∨(q.1 < given∧p.1 < given)))
 sep:∀p∈post,∀q∈post,p.1≠q.1→∀b,Hb (H' p.1) b→¬Hb (H' q.1) b
def FM(H:Nat→Value)(Z:Nat→Nat)(pre:MM){ι:Type}(Q:ι→Prop)(res:ι→ST)(post:ι→MM)(w:World)(M0:Nat→Prop)(e:Ending)(w':World):Prop:=
 ∃x v H',Q x∧e=.returned v∧Ext (bP H pre) w w'∧RD w w' M0 H H' Z pre (post x)∧
  fy (cD (post x)) H' Z w' (fun b=>M0 b∨bP H' (post x) b) v (res x)
structure r5(P:Program)(f:FuncId)(pre:MM)(args:List SV){ι:Type}(Q:ι→Prop)(res:ι→ST)(post:ι→MM):Prop where
 ok:kQ P f
 calls:∀(w:World) (M0:Nat→Prop) (H:Nat→Value) (Z:Nat→Nat) (vs:List Value),RC w M0 H Z pre→
  Pw (fun v s=>cF (cD pre) H Z w (fun b=>M0 b∨bP H pre b) v s) vs args→
  Calls P f vs.toArray w (FM H Z pre Q res post w M0)
def rowsOf(H:Nat→Value)(pre:MM)(b:Nat):Prop:=∃p∈pre,p.1 < given∧Hb (H p.1) b
theorem oe{H:Nat→Value}{pre:MM}{M0:Nat→Prop}(hd:∀b,bP H pre b→¬M0 b):∀b,rowsOf H pre b→bP H pre b∧¬M0 b:=
 fun b ⟨p,hp,_,hb⟩=>⟨⟨p,hp,hb⟩,hd b ⟨p,hp,hb⟩⟩
theorem Ly{P:Program}{f:FuncId}{fn:Func}{c:Code}{pre:MM}{args:List SV}{ι:Type}{Q:ι→Prop}{res:ι→ST}{post:ι→MM}
 (hf:P.funcs[f]? =some fn)(hb:fn.body=some c)(hn:Nat.ble args.length fn.ntmps=true)(N4:Nat.ble fn.ntmps given=true)(FW:(fn.name=="runtime.NumGoroutine")=false)
 (hu:xD pre=true)
 (h:∀(w:World) (M0:Nat→Prop) (H:Nat→Value) (Z:Nat→Nat) (hd:∀b,bP H pre b→¬M0 b),
   Goes ⟨P,w,M0,bP H pre,H,rowsOf H pre,oe hd⟩ f fn.ntmps (FM H Z pre Q res post w M0) [.code c] (sT 0 args) pre):
 r5 P f pre args Q res post:=by
 refine⟨nR hf hb FW,?_⟩
 intro w M0 H Z vs dp cE cs
 have hlen:vs.length=args.length:=cE.1
 let a:Act:={tmps:=vs.toArray++Array.replicate (fn.ntmps - vs.toArray.size) undef,defers:=[]}
 have hn:=fR.mp hn
 have dC:Mod ⟨P,w,M0,bP H pre,H,rowsOf H pre,oe dp.Va⟩ H Z fn.ntmps (sT 0 args) pre a w:=by
  refine⟨rfl,by simp[a];omega,fR.mp N4,fun _ _ _=>rfl,Ext.refl _ _,dp.m0,oc hu,dp.mem,?_,dp.sep,?_⟩
  ·intro p hp b hb
   refine⟨?_,dp.lt p hp b hb⟩
   rcases cn p.1 given with h1|h1
   ·exact .inl ⟨h1,.inr ⟨p,hp,h1,hb⟩⟩
   ·exact .inr ⟨h1,.inl ⟨p,hp,hb⟩⟩
  ·intro p hp
   obtain⟨j,s,rfl,hj⟩:=nY hp
   obtain⟨u,hu,hr⟩:=cE.2 j s hj
   have eC:j < vs.length:=(ai.1 hu).1
   have:a.tmps.getD (0+j) undef=u:=by
    have Oc:vs[j]=u:=by
     have:=aa eC
     rw[hu]at this
     injection this with this;exact this.symm
    simp[a,cN,mL,eC,Oc]
   rw[this]
   exact hr
 let b:Frame:={(default:Frame)with fn:=f,kind:=.normal}
 have pC:Frame.enter P f vs.toArray .normal=b.at a [.code c]:=by
  simp[Frame.enter,Frame.at,hf,hb,b,a]
 obtain⟨e,w',fr,h1,h2,h3,h4⟩:=h w M0 H Z dp.Va a w ⟨H,Z,dC⟩ b cs J J
 rw[pC]
 exact⟨e,w',fr,h1,h2,h3,h4⟩
def Bo(mm:MM):MM→Prop
 |[]=>True
 |(i,o)::r=>getM mm i=some o∧Bo mm r
theorem Bo.get{mm:MM}:∀{l:MM},Bo mm l→∀p∈l,getM mm p.1=some p.2
 |[],_,p,hp=>by cases hp
 |(i,o)::r,h,p,hp=>by
  rcases ae.1 hp with rfl|hp
  ·exact h.1
  ·exact Bo.get h.2 p hp
def lr(pre:MM):MM→Bool
 |[]=>true
 |(i,_)::r=>match Nat.blt i given with
  |true=>lr pre r
  |false=>match iW pre i with
   |true=>lr pre r
   |false=>false
theorem gy{pre:MM}:∀{l:MM},lr pre l=true→∀p∈l,given≤p.1→cD pre p.1
 |[],_,p,hp=>by cases hp
 |(i,o)::r,h,p,hp=>by
  unfold lr at h
  intro hg
  split at h
  ·rename_i hb
   rcases ae.1 hp with rfl|hp
   ·exact absurd hg (Nat.not_le.2 (aY.mp hb))
   ·exact gy h p hp hg
  ·split at h
   ·rename_i hh
    rcases ae.1 hp with rfl|hp
    ·exact rO hh
    ·exact gy h p hp hg
   ·cases h
theorem xN(s:SC):BJ [] s=s:=by
 cases s with
 |ku f df=>rw[BJ,sX,show cy []=id from rfl,r6]
 |_=>rfl
theorem Dr(s:SV):Ju [] s=s:=by
 cases s with
 |one s=>rw[Ju,xN]
 |agg l=>rw[Ju,mw,show BJ []=id from funext xN,r6]
theorem J0(s:ST):M3 [] s=s:=by
 cases s with
 |v s=>rw[M3,Dr]
 |gE l=>rw[M3,qb,show Ju []=id from funext Dr,r6]
theorem J1(o:MO):yL [] o=o:=by
 cases o with
 |box cs=>rw[yL,mw,show BJ []=id from funext xN,r6]
 |_=>rfl
theorem OL{P:Program}{w0:World}{M0:Nat→Prop}{f:FuncId}{n:Nat}{tm:TM}{mm pre:MM}{H:Nat→Value}{Z:Nat→Nat}{hd:∀b,bP H pre b→¬M0 b}{Θ:dD}(bI:bz P Θ)
 {ι:Type}{Q:ι→Prop}{res:ι→ST}{post:ι→MM}{fn:Func}(hf:P.funcs[f]? =some fn)(x:ι){rs:List SV}{t:List Item}(ht:t=[]∨∃k,t=.code .ret::k)
 (hr:sK Θ tm mm fn.results.toList=some rs)(he:dI rs=res x)(mZ:PW (res x)=true)(b7:Pf (post x) (res x)=true)(fP:Bo mm (post x))
 (NY:Pe (post x)=true)(VO:x3 (post x) (post x)=true)(V7:lr pre (post x)=true)(hQ:Q x):
 Goes ⟨P,w0,M0,bP H pre,H,rowsOf H pre,oe hd⟩ f n (FM H Z pre Q res post w0 M0) t tm mm:=by
 intro a w ⟨H',Z',hm⟩ b fs hb hk
 obtain⟨v,h1,h2⟩:=lh bI hm hr
 have dL:∀p∈post x,p∈mm:=fun p hp=>aN (fP.get p hp)
 have hM:∀b,b < w.heap.size→(M0 b∨bP H' (post x) b)→cU ⟨P,w0,M0,bP H pre,H,rowsOf H pre,oe hd⟩ H' mm b:=by
  rintro b _ (hb|⟨p,hp,cC⟩)
  ·exact .inl hb
  ·exact .inr ⟨p,dL p hp,cC⟩
 have hI:∀i,cD (post x) i→cD (post x) (cy [] i)∧H' (cy [] i)=H' i:=fun i hi=>⟨hi,rfl⟩
 have uI:FM H Z pre Q res post w0 M0 (.returned v) w:=by
  refine⟨x,v,H',hQ,rfl,hm.ext,⟨fun p hp hg=>hm.hg p (dL p hp) hg,fun p hp=>?_,fun p hp b hb=>?_,fun p hp q hq=>hm.sep p (dL p hp) q (dL q hq)⟩,?_⟩
  ·have:=Ad (ren:=[]) (H':=H') (Z':=Z) (I':=cD (post x)) (qf NY p hp) (hm.mem p (dL p hp)) J (fun j hj _=>⟨iT VO p hp j hj,rfl⟩) hM
   rw[J1]at this
   exact this
  ·obtain⟨h3,h4⟩:=hm.fresh p (dL p hp) b hb
   refine⟨h4,?_⟩
   rcases h3 with⟨h5,h6|⟨q,hq,FT,db⟩⟩|⟨h5,h6|h6⟩
   ·exact .inl h6
   ·exact .inr ⟨q,hq,db,.inr ⟨FT,h5⟩⟩
   ·obtain⟨q,hq,vg⟩:=gy V7 p hp h5
    refine .inr ⟨q,hq,?_,.inl vg.symm⟩
    rw[vg]
    have:=hm.hg p (dL p hp) h5
    simp only at this
    rw[←this];exact hb
   ·exact .inl h6
  ·have:=zu (ren:=[]) (H':=H') (Z':=Z) (I':=cD (post x)) mZ (he▸h2) (fun j hj _=>⟨zR b7 j hj,rfl⟩) hM
   rw[J0]at this
   exact this
 rcases ht with rfl|⟨k,rfl⟩
 ·exact⟨.returned v,w,_,uI,Steps.one step_end,hb,rfl,hm.defers,hk,fn,hb▸hf,h1⟩
 ·exact⟨.returned v,w,_,uI,Steps.one step_ret,hb,rfl,hm.defers,hk,fn,hb▸hf,h1⟩
def vd(mm:MM)(ren:List (Nat×Nat)):MM→Prop
 |[]=>True
 |(i,o)::r=>getM mm (cy ren i)=some (yL ren o)∧vd mm ren r
theorem vd.get{mm:MM}{ren:List (Nat×Nat)}:∀{l:MM},vd mm ren l→∀p∈l,getM mm (cy ren p.1)=some (yL ren p.2)
 |[],_,p,hp=>by cases hp
 |(i,o)::r,h,p,hp=>by
  rcases ae.1 hp with rfl|hp
  ·exact h.1
  ·exact vd.get h.2 p hp
def Co(ren:List (Nat×Nat)):MM→List Nat
 |[]=>[]
 |(i,_)::r=>cy ren i::Co ren r
theorem nE{ren:List (Nat×Nat)}:∀{l:MM} {j:Nat},j∈Co ren l↔∃p∈l,cy ren p.1=j
 |[],j=>by simp[Co]
 |(i,o)::r,j=>by
  rw[Co,ae,nE (l:=r)]
  simp[eq_comm]
def ri(ren:List (Nat×Nat)):MM→Bool
 |[]=>true
 |(i,_)::r=>match Nat.blt i given with
  |true=>match Nat.blt (cy ren i) given with
   |true=>ri ren r
   |false=>false
  |false=>ri ren r
theorem iy{ren:List (Nat×Nat)}:∀{l:MM},ri ren l=true→∀p∈l,p.1 < given→cy ren p.1 < given
 |[],_,p,hp=>by cases hp
 |(i,o)::r,h,p,hp=>by
  unfold ri at h
  intro hg
  split at h
  ·split at h
   ·rename_i hb
    rcases ae.1 hp with rfl|hp
    ·exact aY.mp hb
    ·exact iy h p hp hg
   ·cases h
  ·rename_i hb
   rcases ae.1 hp with rfl|hp
   ·have:=aY.mpr hg
    rw[this]at hb;cases hb
   ·exact iy h p hp hg
def keptIn(post:MM):MM→Bool
 |[]=>true
 |(i,_)::r=>match Nat.blt i given with
  |true=>keptIn post r
  |false=>match iW post i with
   |true=>keptIn post r
   |false=>false
theorem rH(post:MM):∀l:MM,keptIn post l=lr post l
 |[]=>rfl
 |(i,o)::r=>by unfold keptIn lr;rw[rH post r]
def zj(ren:List (Nat×Nat))(mm:MM):MM→Bool
 |[]=>true
 |(i,_)::r=>match Nat.blt i given with
  |false=>zj ren mm r
  |true=>match ed (cy ren i) mm with
   |true=>zj ren mm r
   |false=>false
theorem pk{ren:List (Nat×Nat)}{mm:MM}:∀{l:MM},zj ren mm l=true→∀p∈l,p.1 < given→∀t∈mm,cy ren p.1∉t.2.bD
 |[],_,p,hp=>by cases hp
 |(i,o)::r,h,p,hp=>by
  unfold zj at h
  intro hg
  split at h
  ·rename_i hb
   rcases ae.1 hp with rfl|hp
   ·have:=aY.mpr hg
    rw[this]at hb;cases hb
   ·exact pk h p hp hg
  ·split at h
   ·rename_i hb
    rcases ae.1 hp with rfl|hp
    ·exact fun t ht=>dP hb ht
    ·exact pk h p hp hg
   ·cases h
def uR(ren:List (Nat×Nat)):MM→TM→TM
 |[],tm=>tm
 |(i,_)::r,tm=>match Nat.blt i given with
  |true=>uR ren r (jQ (cy ren i) tm)
  |false=>uR ren r tm
theorem rU{ren:List (Nat×Nat)}{t:Nat×ST}:∀{l:MM} {tm:TM},t∈uR ren l tm→t∈tm∧∀p∈l,p.1 < given→cy ren p.1∉t.2.bD
 |[],_,h=>⟨h,fun p hp=>by cases hp⟩
 |(i,o)::r,tm,h=>by
  unfold uR at h
  split at h
  ·obtain⟨h1,h2⟩:=rU h
   obtain⟨h3,h4⟩:=jB h1
   refine⟨h3,fun p hp hg=>?_⟩
   rcases ae.1 hp with rfl|hp
   ·exact h4
   ·exact h2 p hp hg
  ·rename_i hb
   obtain⟨h1,h2⟩:=rU h
   refine⟨h1,fun p hp hg=>?_⟩
   rcases ae.1 hp with rfl|hp
   ·have:=aY.mpr hg
    rw[this]at hb;cases hb
   ·exact h2 p hp hg
def nC(ren:List (Nat×Nat)):MM→Nat→Option Nat
 |[],_=>none
 |(i,_)::r,j=>if cy ren i=j then some i else nC ren r j
theorem um{ren:List (Nat×Nat)}{j i:Nat}:∀{l:MM},nC ren l j=some i→∃p∈l,p.1=i∧cy ren i=j
 |[],h=>by cases h
 |(k,o)::r,h=>by
  unfold nC at h
  split at h
  ·rename_i hk
   injection h with h;subst h
   exact⟨_,ah,rfl,hk⟩
  ·obtain⟨p,hp,e⟩:=um h
   exact⟨p,ab _ hp,e⟩
theorem uo{ren:List (Nat×Nat)}{j:Nat}:∀{l:MM},(∀p∈l,cy ren p.1≠j)→nC ren l j=none
 |[],_=>rfl
 |(k,o)::r,h=>by
  unfold nC
  rw[if_neg (h (k,o) ah)]
  exact uo fun p hp=>h p (ab _ hp)
theorem E3{ren:List (Nat×Nat)}{l:MM}(hi:∀p∈l,∀q∈l,cy ren p.1=cy ren q.1→p.1=q.1){p:Nat×MO}(hp:p∈l):nC ren l (cy ren p.1)=some p.1:=by
 cases h:nC ren l (cy ren p.1)with
 |some i=>
  obtain⟨q,hq,e1,e2⟩:=um h
  subst e1
  rw[hi q hq p hp e2]
 |none=>
  exfalso
  have:∀{l:MM},nC ren l (cy ren p.1)=none→p∉l:=by
   intro l
   induction l with
   |nil=>intro _;simp
   |cons q l ih=>
    intro h hm
    unfold nC at h
    split at h
    ·cases h
    ·rename_i cj
     rcases ae.1 hm with rfl|hm
     ·exact cj J
     ·exact ih h hm
  exact this h hp
theorem vX:∀{A B:MM},xD (A++B)=true→∀p∈A,∀q∈B,p.1≠q.1
 |[],_,_,p,hp,_,_=>by cases hp
 |(i,o)::A,B,h,p,hp,q,hq=>by
  rw[cX]at h
  unfold xD at h
  split at h
  ·cases h
  ·rename_i hh
   rcases ae.1 hp with rfl|hp
   ·exact fun e=>fc hh ⟨q,b8 _ hq,e.symm⟩
   ·exact vX h p hp q hq
section
variable {C:Ctx} {n:Nat} {tm:TM} {mm:MM} {o:Oper} {d:Nat} {L l:List Oper} {T:TM→MM→Prop}
def yH(ren:List (Nat×Nat))(mm pre post:MM):MM:=RI ren post++eT (Co ren pre) mm
def HO(ren:List (Nat×Nat)):MM→Bool
 |[]=>true
 |(i,_)::r=>match fw (Co ren r) (cy ren i)with
  |true=>false
  |false=>HO ren r
theorem rJ{ren:List (Nat×Nat)}:∀{l:MM},HO ren l=true→∀p∈l,∀q∈l,cy ren p.1=cy ren q.1→p=q
 |[],_,p,hp=>by cases hp
 |(i,o)::r,h,p,hp=>by
  intro q hq he
  unfold HO at h
  split at h
  ·cases h
  ·rename_i hm
   have yO:∀s∈r,cy ren s.1≠cy ren i:=fun s hs e=>by
    have:cy ren i∈Co ren r:=nE.2 ⟨s,hs,e⟩
    rw[cz.2 this]at hm;cases hm
   rcases ae.1 hp with rfl|hp<;>rcases ae.1 hq with rfl|hq
   ·rfl
   ·exact absurd he.symm (yO q hq)
   ·exact absurd he (yO p hp)
   ·exact rJ h p hp q hq he
structure O8(ren:List (Nat×Nat))(mm pre:MM):Prop where
 inj:HO ren pre=true
 pl:Pe pre=true
 ok:x3 pre pre=true
 lt:ri ren pre=true
 nm:zj ren mm pre=true
structure O7(ren:List (Nat×Nat))(mm pre post:MM):Prop where
 SH:HO ren post=true
 Ux:xD (yH ren mm pre post)=true
 Vi:Pe post=true
 okP:x3 post post=true
 UA:ri ren post=true
 WN:lr pre post=true
 kept:keptIn post pre=true
theorem jS{ren:List (Nat×Nat)}{mm pre post:MM}{q:Nat×MO}:q∈yH ren mm pre post↔(∃p∈post,q=(cy ren p.1,yL ren p.2))∨(q∈mm∧∀p∈pre,cy ren p.1≠q.1):=by
 unfold yH
 rw[aQ,BI,aE,dm]
 constructor
 ·rintro(⟨p,hp,rfl⟩|⟨h1,h2⟩)
  ·exact .inl ⟨p,hp,rfl⟩
  ·exact .inr ⟨h1,fun p hp e=>h2 (nE.2 ⟨p,hp,e⟩)⟩
 ·rintro(⟨p,hp,rfl⟩|⟨h1,h2⟩)
  ·exact .inl ⟨p,hp,rfl⟩
  ·exact .inr ⟨h1,fun h=>let⟨p,hp,e⟩:=nE.1 h;h2 p hp e⟩
theorem vB{f:FuncId}{pre:MM}{args:List SV}{ι:Type}{Q:ι→Prop}{res:ι→ST}{post:ι→MM}(hc:r5 C.P f pre args Q res post)(ren:List (Nat×Nat)){vs:List Value}
 {H:Nat→Value}{Z:Nat→Nat}{a:Act}{w:World}(hm:Mod C H Z n tm mm a w)
 (hv:Pw (fun v s=>cF (cD mm) H Z w (cU C H mm) v s) vs (zn ren args))(Qw:BQ args=true)(QF:B9 pre args=true)(dp:vd mm ren pre)
 (hA:O8 ren mm pre)(hB:∀x,O7 ren mm pre (post x))(Pm:∀x,PW (res x)=true)(RV:∀x,Pf (post x) (res x)=true)(hd:d < n)
 (K:Act→World→Prop)(Qx:Exit→Act→World→Prop)(hK:∀x a' w',Q x→Has C n ((d,M3 ren (res x))::bw (uR ren pre tm) d) (yH ren mm pre (post x)) a' w'→K a' w'):
 Calls C.P f vs.toArray w fun
  |.returned v,xC=>K (a.put (some d) v) xC
  |.panicked chain,xC=>Qx (.panic chain) a xC
  |.outgrown,_=>LetsOut Qx:=by
 have eL:∀p∈pre,(cy ren p.1,yL ren p.2)∈mm:=fun p hp=>aN (dp.get p hp)
 let Hc:Nat→Value:=fun i=>H (cy ren i)
 let Zc:Nat→Nat:=fun i=>Z (cy ren i)
 have hblk:∀b,bP Hc pre b→∃q∈mm,Hb (H q.1) b:=fun b ⟨p,hp,hb⟩=>⟨_,eL p hp,hb⟩
 let Sf:Nat→Prop:=fun b=>cU C H mm b∧¬bP Hc pre b
 have Q7:∀b,(Sf b∨bP Hc pre b)→cU C H mm b:=fun b hb=>hb.elim (fun h=>h.1) fun h=>.inr (hblk b h)
 have Ow:RC w Sf Hc Zc pre:=by
  refine⟨?_,fun b hb h=>h.2 hb,?_,?_,?_⟩
  ·rintro b ⟨hb|⟨p,hp,cC⟩,_⟩
   ·exact bX (hm.m0 b hb) hm.ext.size
   ·exact(hm.fresh p hp b cC).2
  ·intro p hp
   exact Ce (qf hA.pl p hp) (hm.mem _ (eL p hp)) (iT hA.ok p hp) (fun b _=>Q7 b)
  ·intro p hp b hb
   exact(hm.fresh _ (eL p hp) b hb).2
  ·intro p hp q hq jl b hb
   refine hm.sep _ (eL p hp) _ (eL q hq) (fun e=>jl ?_) b hb
   rw[rJ hA.inj p hp q hq e]
 refine(hc.calls w Sf Hc Zc vs Ow ?_).mono ?_
 ·refine⟨by have:=hv.1;rw[qb,aw]at this;exact this,fun j s hs=>?_⟩
  obtain⟨u,hu,hr⟩:=hv.2 j (Ju ren s) (by rw[qb,aI,hs];rfl)
  exact⟨u,hu,BL (rv Qw s (an hs)) hr (rA QF s (an hs)) (fun b _=>Q7 b)⟩
 rintro e w' ⟨x,v,He,hQ,rfl,ec,qt,oS⟩
 obtain⟨UT,dL,bo,NU⟩:=qt
 have hB:=hB x
 have SQ:=oc hB.Ux
 let H':Nat→Value:=fun j=>match nC ren (post x) j with
  |some i=>He i
  |none=>H j
 have Ts:∀p∈post x,∀q∈post x,cy ren p.1=cy ren q.1→p.1=q.1:=fun p hp q hq e=>by rw[rJ hB.SH p hp q hq e]
 have La:∀p∈post x,H' (cy ren p.1)=He p.1:=fun p hp=>by simp only[H',E3 Ts hp]
 have MC:∀q∈mm,(∀p∈pre,cy ren p.1≠q.1)→H' q.1=H q.1:=fun q hq KU=>by
  have:nC ren (post x) q.1=none:=uo fun p hp e=>by
   refine vX hB.Ux (cy ren p.1,yL ren p.2) ?_ q (dm.2 ⟨hq,fun h=>?_⟩) e
   ·rw[BI];exact aE.2 ⟨p,hp,rfl⟩
   ·obtain⟨r,hr,e⟩:=nE.1 h
    exact KU r hr e
  simp only[H',this]
 have R2:∀p∈post x,given≤p.1→H' (cy ren p.1)=H (cy ren p.1):=fun p hp hg=>by rw[La p hp];exact UT p hp hg
 have MB:∀(u:List Nat),(∀p∈pre,p.1 < given→cy ren p.1∉u)→∀j∈u,cD mm j→cD (yH ren mm pre (post x)) j∧H' j=H j∧Z j=Z j:=by
  intro u hu j hj ⟨q,hq,Qs⟩
  subst Qs
  by_cases KU:∃p∈pre,cy ren p.1=q.1
  ·obtain⟨p,hp,e⟩:=KU
   rcases cn p.1 given with h1|h1
   ·exact absurd (e▸hj) (hu p hp h1)
   ·obtain⟨r,hr,Jy⟩:=gy (rH _ _▸hB.kept) p hp h1
    have Qo:cy ren r.1=q.1:=by rw[Jy];exact e
    refine⟨⟨(cy ren r.1,yL ren r.2),jS.2 (.inl ⟨r,hr,rfl⟩),Qo⟩,?_,rfl⟩
    have:=R2 r hr (by rw[Jy];exact h1)
    rw[Qo]at this
    exact this
  ·have Qr:∀p∈pre,cy ren p.1≠q.1:=fun p hp e=>KU ⟨p,hp,e⟩
   exact⟨⟨q,jS.2 (.inr ⟨hq,Qr⟩),rfl⟩,MC q hq Qr,rfl⟩
 have Mz:∀b,b < w'.heap.size→cU C H' (yH ren mm pre (post x)) b→(Sf b∨bP He (post x) b):=by
  rintro b _ (hb|⟨q,hq,db⟩)
  ·by_cases U4:bP Hc pre b
   ·obtain⟨p,hp,cC⟩:=U4
    rcases cn p.1 given with h1|h1
    ·have hf:=(hm.fresh _ (eL p hp) b cC).1
     have h2:=iy hA.lt p hp h1
     rcases hf with⟨_,h3|h3⟩|⟨h3,_⟩
     ·exact absurd (hm.m0 b hb) (by omega)
     ·exact absurd hb (C.hV b h3).2
     ·simp only at h3;omega
    ·obtain⟨r,hr,Jy⟩:=gy (rH _ _▸hB.kept) p hp h1
     refine .inr ⟨r,hr,?_⟩
     rw[UT r hr (by rw[Jy];exact h1),Jy]
     exact cC
   ·exact .inl ⟨.inl hb,U4⟩
  ·rcases jS.1 hq with⟨p,hp,rfl⟩|⟨h1,h2⟩
   ·exact .inr ⟨p,hp,by rw[←La p hp];exact db⟩
   ·rw[MC q h1 h2]at db
    refine .inl ⟨.inr ⟨q,h1,db⟩,fun⟨p,hp,cC⟩=>?_⟩
    exact hm.sep _ (eL p hp) q h1 (h2 p hp) b cC db
 have U7:∀j,cD (post x) j→cD (yH ren mm pre (post x)) (cy ren j)∧H' (cy ren j)=He j:=by
  rintro j ⟨p,hp,rfl⟩
  exact⟨⟨_,jS.2 (.inl ⟨p,hp,rfl⟩),rfl⟩,La p hp⟩
 refine hK x _ _ hQ ⟨H',Z,?_⟩
 refine hm.build (bP Hc pre) ec (fun b _ hb=>hblk b hb) (by simpa[Act.put]using hm.defers) (by simp[Act.put,hm.size]) ?_ SQ ?_ ?_ ?_
 ·intro q hq S3
  rcases jS.1 hq with⟨p,hp,rfl⟩|⟨h1,h2⟩
  ·rcases cn p.1 given with h1|h1
   ·have:=iy hB.UA p hp h1
    simp only at S3;omega
   ·obtain⟨r,hr,Jy⟩:=gy hB.WN p hp h1
    rw[show H' (cy ren p.1,yL ren p.2).1=H (cy ren p.1)from R2 p hp h1]
    have:=hm.hg _ (eL r hr) (by rw[Jy];exact S3)
    rw[Jy]at this
    exact this
  ·rw[MC q h1 h2];exact hm.hg q h1 S3
 ·intro q hq
  rcases jS.1 hq with⟨p,hp,rfl⟩|⟨h1,h2⟩
  ·refine .inr ⟨fun b hb=>?_,fun iH iA=>?_⟩
   ·rw[show H' (cy ren p.1,yL ren p.2).1=He p.1 from La p hp]at hb
    obtain⟨h3,h4⟩:=bo p hp b hb
    rcases h4 with h4|⟨r,hr,o3,h5⟩
    ·exact .inl ⟨h4,h3⟩
    ·refine .inr ⟨_,eL r hr,o3,?_⟩
     rcases h5 with h5|⟨h5,h6⟩
     ·exact .inl (by show cy ren p.1=cy ren r.1;rw[h5])
     ·exact .inr ⟨iy hA.lt r hr h5,iy hB.UA p hp h6⟩
   ·refine Ad (qf hB.Vi p hp) (dL p hp) (La p hp) (fun j _ hj=>U7 j hj) Mz
  ·refine .inl ⟨h1,MC q h1 h2,rfl,fun b hb ⟨p,hp,cC⟩=>?_,fun j hj j1=>MB q.2.bD (fun p hp hg=>pk hA.nm p hp hg q h1) j hj j1⟩
   exact hm.sep _ (eL p hp) q h1 (h2 p hp) b cC hb
 ·intro q hq r hr UK b db o3
  rcases jS.1 hq with⟨p,hp,rfl⟩|⟨h1,h2⟩<;>rcases jS.1 hr with⟨s,hs,rfl⟩|⟨k1,k2⟩
  ·rw[show H' (cy ren p.1,yL ren p.2).1=He p.1 from La p hp]at db
   rw[show H' (cy ren s.1,yL ren s.2).1=He s.1 from La s hs]at o3
   exact NU p hp s hs (fun e=>UK (by show cy ren p.1=cy ren s.1;rw[e])) b db o3
  ·rw[show H' (cy ren p.1,yL ren p.2).1=He p.1 from La p hp]at db
   rw[MC r k1 k2]at o3
   rcases(bo p hp b db).2 with h4|⟨s,hs,VG,_⟩
   ·have:=(hm.fresh r k1 b o3).2;omega
   ·exact hm.sep _ (eL s hs) r k1 (k2 s hs) b VG o3
  ·rw[show H' (cy ren s.1,yL ren s.2).1=He s.1 from La s hs]at o3
   rw[MC q h1 h2]at db
   rcases(bo s hs b o3).2 with h4|⟨p,hp,cC,_⟩
   ·have:=(hm.fresh q h1 b db).2;omega
   ·exact hm.sep _ (eL p hp) q h1 (h2 p hp) b cC db
  ·rw[MC q h1 h2]at db
   rw[MC r k1 k2]at o3
   exact hm.sep q h1 r k1 UK b db o3
 ·intro p hp
  rcases ae.1 hp with rfl|hp
  ·refine .inr fun _ _=>?_
   rw[gQ (by rw[hm.size];exact hd)]
   exact zu (Pm x) oS (fun j _ hj=>U7 j hj) Mz
  ·obtain⟨h1,h2⟩:=b4 hp
   obtain⟨h3,h4⟩:=rU h1
   exact .inl ⟨p,h3,rfl,fu h2,fun j hj j1=>MB p.2.bD h4 j hj j1⟩
theorem Hk{f:FuncId}{pre:MM}{args:List SV}{ι:Type}{Q:ι→Prop}{res:ι→ST}{post:ι→MM}(hc:r5 C.P f pre args Q res post)(ren:List (Nat×Nat)){xs:Array Operand}{ts:Array TypeId}
 (ho:o.op=.call {callee:=.value (.func f),args:=xs,argTypes:=ts})(cE:da tm xs.toList=some (zn ren args))(Qw:BQ args=true)(QF:B9 pre args=true)(dp:vd mm ren pre)
 (hA:O8 ren mm pre)(hB:∀x,O7 ren mm pre (post x))(Pm:∀x,PW (res x)=true)(RV:∀x,Pf (post x) (res x)=true)(hd:o.dst=some d)(hn:Nat.blt d n=true)
 {a:Act}{w:World}{K:Act→World→Prop}{Qx:Exit→Act→World→Prop}(hh:Has C n tm mm a w)
 (hK:∀x a' w',Q x→Has C n ((d,M3 ren (res x))::bw (uR ren pre tm) d) (yH ren mm pre (post x)) a' w'→K a' w'):o.wp C.P a w K Qx:=by
 obtain⟨H,Z,hm⟩:=hh
 have AK:=vB hc ren hm (gz hm cE) Qw QF dp hA hB Pm RV (aY.mp hn) K Qx hK
 unfold Oper.wp
 have dQ:(execOp a.eval o).run C.P w=.ok (.enter f (xs.toList.map a.eval).toArray) w:=by
  have uC:xs.map a.eval=(xs.toList.map a.eval).toArray:=by simp[←dz]
  simp only[execOp,ho,resolve,uC,Deferred.ofValue,Act.eval,invoke,Sem.run_bind,Sem.run_pure,Result.andThen_ok,pU,kW,hc.ok w]
 rw[dQ]
 show Calls _ _ _ _ _
 rw[hd]
 exact AK
theorem qa{f:FuncId}{pre:MM}{args:List SV}{ι:Type}{Q:ι→Prop}{res:ι→ST}{post:ι→MM}(hc:r5 C.P f pre args Q res post)(ren:List (Nat×Nat)){xs:Array Operand}{ts:Array TypeId}
 (ho:o.op=.call {callee:=.value (.func f),args:=xs,argTypes:=ts})(cE:da tm xs.toList=some (zn ren args))(Qw:BQ args=true)(QF:B9 pre args=true)(dp:vd mm ren pre)
 (hA:O8 ren mm pre)(hB:∀x,O7 ren mm pre (post x))(Pm:∀x,PW (res x)=true)(RV:∀x,Pf (post x) (res x)=true)(hd:o.dst=some d)(hn:Nat.blt d n=true)(hg:bp L tm o=some true)
 (k:∀x,Q x→SOps C n L.toArray l ((d,M3 ren (res x))::bw (uR ren pre tm) d) (yH ren mm pre (post x)) T):SOps C n L.toArray (o::l) tm mm T:=by
 intro a w hh
 unfold wpList
 rw[if_pos (iw (iB hg) hh)]
 exact .inl (Hk hc ren ho cE Qw QF dp hA hB Pm RV hd hn hh fun x a' w' hq h'=>k x hq a' w' h')
end
section
variable {C:Ctx} {n:Nat} {L:List Oper} {ι:Type} {dc:TM} {ET:Nat→ι→TM} {ic:Nat→ι→MM} {k:Nat} {x:ι} {o:Oper} {d:Nat}
end
end Go.Sy
