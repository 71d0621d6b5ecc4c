/- The symbolic layer, bundle Sy8. -/
import Derived.Test.YtdjocfajcbhmgaaGreatDoorSy7
set_option linter.unusedSimpArgs false
set_option linter.unusedVariables false
set_option linter.unusedSectionVars false
namespace Go.Sy
open Go.RowKit
abbrev PL:=List (TypeId×Nat×PQ)
def Kh(ps:PL)(b:Nat):Prop:=∃p∈ps,∃q∈p.2.2,hblk q.1=some b
structure MR(w w':World)(M0:Nat→Prop)(ps:PL):Prop where
 ok:∀p∈ps,eF w' (fun b=>M0 b∨Kh ps b) p.1 p.2.1 p.2.2
 fresh:∀b,Kh ps b→w.heap.size≤b
 sep:∀(j k:Nat) (p q:TypeId×Nat×PQ),ps[j]? =some p→ps[k]? =some q→j≠k→∀b,(∃r∈p.2.2,hblk r.1=some b)→¬∃r∈q.2.2,hblk r.1=some b
def MU{ι:Type}(Q:ι→Prop)(res:ι→ST)(ps:ι→PL)(w:World)(M0:Nat→Prop)(e:Ending)(w':World):Prop:=
 ∃x v,Q x∧e=.returned v∧Ext (fun _=>False) w w'∧MR w w' M0 (ps x)∧eK (fun _=>False) (fun _=>undef) (fun _=>0) w' (fun b=>M0 b∨Kh (ps x) b) v (res x)
structure I7(P:Program)(f:FuncId)(args:List SV){ι:Type}(Q:ι→Prop)(res:ι→ST)(ps:ι→PL):Prop where
 ok:lG P f
 calls:∀(w:World) (M0:Nat→Prop) (H:Nat→Value) (Z:Nat→Nat) (vs:List Value),(∀b,M0 b→b < w.heap.size)→
  Pw (fun v s=>cu (cU []) H Z w M0 v s) vs args→Calls P f vs.toArray w (MU Q res ps w M0)
theorem Bo{P:Program}{f:FuncId}{fn:Func}{c:Code}{args:List SV}{ι:Type}{Q:ι→Prop}{res:ι→ST}{ps:ι→PL}
 (hf:P.funcs[f]? =some fn)(hb:fn.body=some c)(hn:Nat.ble args.length fn.ntmps=true)(RV:Nat.ble fn.ntmps given=true)(Eb:(fn.name=="runtime.NumGoroutine")=false)
 (h:∀(w:World) (M0:Nat→Prop) (H:Nat→Value),Goes ⟨P,w,M0,fun _=>False,H,fun _=>False,fun _ h=>h.elim⟩ f fn.ntmps (MU Q res ps w M0) [.code c] (u6 0 args) []):I7 P f args Q res ps:=by
 refine⟨my hf hb Eb,?_⟩
 intro w M0 H Z vs OV cE fs
 have hlen:vs.length=args.length:=cE.1
 let a:Act:={tmps:=vs.toArray++Array.replicate (fn.ntmps - vs.toArray.size) undef,defers:=[]}
 have hn:=gw.mp hn
 have dh:Mod ⟨P,w,M0,fun _=>False,H,fun _=>False,fun _ h=>h.elim⟩ H Z fn.ntmps (u6 0 args) [] a w:=by
  refine⟨rfl,by simp[a];omega,gw.mp RV,(fun p hp=>by cases hp),Ext.refl _ _,OV,(fun p hp=>by cases hp),(fun p hp=>by cases hp),(fun p hp=>by cases hp),(fun p hp=>by cases hp),?_⟩
  intro p hp
  obtain⟨j,s,rfl,hj⟩:=pj hp
  obtain⟨u,hu,hr⟩:=cE.2 j s hj
  have fg:j < vs.length:=(ai.1 hu).1
  have:a.tmps.getD (0+j) undef=u:=by
   have R2:vs[j]=u:=by
    have:=aa fg
    rw[hu]at this
    injection this with this;exact this.symm
   simp[a,db,nZ,fg,R2]
  rw[this]
  exact cu.mono hr (fun i _ hi=>⟨hi,rfl,rfl⟩) (ay _) (fun _ _ _=>rfl) (fun b _ hb=>by
   rcases hb with hb|⟨p,hp,_⟩
   ·exact hb
   ·cases hp)
 let b:Frame:={(default:Frame)with fn:=f,kind:=.normal}
 have q5:Frame.enter P f vs.toArray .normal=b.at a [.code c]:=by
  simp[Frame.enter,Frame.at,hf,hb,b,a]
 obtain⟨e,w',fr,h1,h2,h3,h4⟩:=h w M0 H a w ⟨H,Z,dh⟩ b fs J J
 rw[q5]
 exact⟨e,w',fr,h1,h2,h3,h4⟩
def v8(mm:MM):List Nat→Option PL
 |[]=>some []
 |i::r=>match getM mm i with
  |some (.bF e sz qs)=>match v8 mm r with
   |some l=>some ((e,sz,qs)::l)
   |none=>none
  |_=>none
theorem uc{mm:MM}:∀{ids:List Nat} {ps:PL},v8 mm ids=some ps→ids.length=ps.length∧∀(k:Nat) (p:TypeId×Nat×PQ),ps[k]? =some p→∃i,ids[k]? =some i∧(i,MO.bF p.1 p.2.1 p.2.2)∈mm
 |[],ps,h=>by simp[v8]at h;subst h;exact⟨rfl,fun k p hp=>by simp at hp⟩
 |i::r,ps,h=>by
  unfold v8 at h
  split at h
  ·rename_i hg
   split at h
   ·rename_i l hl
    injection h with h;subst h
    obtain⟨h1,h2⟩:=uc hl
    refine⟨by simp[h1],fun k p hp=>?_⟩
    cases k with
    |zero=>simp at hp;subst hp;exact⟨i,rfl,aT hg⟩
    |succ k=>simpa using h2 k p (by simpa using hp)
   ·cases h
  ·cases h
def rf:List Nat→Bool
 |[]=>true
 |i::r=>match Nat.blt i given with
  |true=>rf r
  |false=>false
theorem pk:∀{l:List Nat},rf l=true→∀i∈l,i < given
 |[],_,i,hi=>by cases hi
 |j::r,h,i,hi=>by
  unfold rf at h
  split at h
  ·rename_i hb
   rcases ae.1 hi with rfl|hi
   ·exact a6.mp hb
   ·exact pk h i hi
  ·cases h
theorem xj{P:Program}{w0:World}{M0:Nat→Prop}{f:FuncId}{n:Nat}{tm:TM}{mm:MM}{H:Nat→Value}{Θ:da}(bt:a8 P Θ){ι:Type}{Q:ι→Prop}{res:ι→ST}{ps:ι→PL}
 {fn:Func}(hf:P.funcs[f]? =some fn)(ids:List Nat)(x:ι){rs:List SV}{t:List Item}(ht:t=[]∨∃k,t=.code .ret::k)
 (hr:uN Θ tm mm fn.results.toList=some rs)(he:dd rs=res x)(fZ:jt (res x)=true)(WH:v8 mm ids=some (ps x))(mB:lq ids=true)(hg:rf ids=true)(hQ:Q x):
 Goes ⟨P,w0,M0,fun _=>False,H,fun _=>False,fun _ h=>h.elim⟩ f n (MU Q res ps w0 M0) t tm mm:=by
 intro a w ⟨H',Z',hm⟩ b fs hb hk
 obtain⟨v,h1,h2⟩:=lY bt hm hr
 obtain⟨p1,p2⟩:=uc WH
 have hH:∀i e sz qs,(i,MO.bF e sz qs)∈mm→H' i=gg qs∧eF w (cO ⟨P,w0,M0,fun _=>False,H,fun _=>False,fun _ h=>h.elim⟩ H' mm) e sz qs:=fun i e sz qs hi=>hm.mem _ hi
 have hM:∀b,(M0 b∨Kh (ps x) b)→cO ⟨P,w0,M0,fun _=>False,H,fun _=>False,fun _ h=>h.elim⟩ H' mm b:=by
  rintro b (hb|⟨p,hp,c9⟩)
  ·exact .inl hb
  ·obtain⟨k,hk,Ec⟩:=aC.1 hp
   obtain⟨i,_,hi⟩:=p2 k p (by rw[aa hk,Ec])
   exact .inr ⟨_,hi,by rw[show H' (i,_).1=_ from(hH _ _ _ _ hi).1];exact dD.2 c9⟩
 have nM:MU Q res ps w0 M0 (.returned v) w:=by
  refine⟨x,v,hQ,rfl,hm.ext,⟨fun p hp=>?_,fun b hb=>?_,fun j k p q hj hk OJ b c9 dS=>?_⟩,?_⟩
  ·obtain⟨k,hk,Ec⟩:=aC.1 hp
   obtain⟨i,_,hi⟩:=p2 k p (by rw[aa hk,Ec])
   obtain⟨_,g1,g2⟩:=hH _ _ _ _ hi
   exact⟨fun k q hq=>fp.mono (v:=q.1) (xs:=q.2) (g1 k q hq) (fun _ _=>rfl) (ay _) (fun _ _ _=>rfl) (fun b _ hb=>hM b hb),g2⟩
  ·obtain⟨p,hp,c9⟩:=hb
   obtain⟨k,hk,Ec⟩:=aC.1 hp
   obtain⟨i,oW,hi⟩:=p2 k p (by rw[aa hk,Ec])
   have gb:=(hm.fresh _ hi b (by rw[show H' (i,_).1=_ from(hH _ _ _ _ hi).1];exact dD.2 c9)).1
   have:=pk hg i (aj oW)
   rcases gb with⟨_,h|h⟩|⟨h,_⟩
   ·exact h
   ·exact h.elim
   ·simp only at h;omega
  ·obtain⟨i,oW,hi⟩:=p2 j p hj
   obtain⟨i',W7,Qs⟩:=p2 k q hk
   have cV:i≠i':=fun e=>by
    subst e
    have Ix:=(ai.1 oW)
    have Qp:=(ai.1 W7)
    obtain⟨l1,g1⟩:=Ix
    obtain⟨l2,g2⟩:=Qp
    exact OJ (pM (nI mB) l1 l2 (by rw[g1,g2]))
   exact hm.sep _ hi _ Qs cV b (by rw[show H' (i,_).1=_ from(hH _ _ _ _ hi).1];exact dD.2 c9) (by rw[show H' (i',_).1=_ from(hH _ _ _ _ Qs).1];exact dD.2 dS)
  ·rw[←he]
   exact h2.mono (fun i hi=>by rw[he,nE fZ]at hi;cases hi) (ay _) (fun _ _ _=>rfl) (fun b _ hb=>hM b hb)
 rcases ht with rfl|⟨k,rfl⟩
 ·exact⟨.returned v,w,_,nM,Steps.one step_end,hb,rfl,hm.defers,hk,fn,hb▸hf,h1⟩
 ·exact⟨.returned v,w,_,nM,Steps.one step_ret,hb,rfl,hm.defers,hk,fn,hb▸hf,h1⟩
def mn:List Nat→PL→MM
 |j::js,p::ps=>(j,.bF p.1 p.2.1 p.2.2)::mn js ps
 |_,_=>[]
theorem eL:∀{js:List Nat} {ps:PL} {q:Nat×MO},q∈mn js ps→∃(k j:Nat) (p:TypeId×Nat×PQ),js[k]? =some j∧ps[k]? =some p∧q=(j,.bF p.1 p.2.1 p.2.2)
 |[],_,q,h=>by simp[mn]at h
 |_::_,[],q,h=>by simp[mn]at h
 |j::js,p::ps,q,h=>by
  unfold mn at h
  rcases ae.1 h with rfl|h
  ·exact⟨0,j,p,rfl,rfl,rfl⟩
  ·obtain⟨k,j',p',h1,h2,h3⟩:=eL h
   exact⟨k+1,j',p',by simpa using h1,by simpa using h2,h3⟩
def ui:List Nat→PL→Nat→Option Value
 |j::js,p::ps,i=>if j=i then some (gg p.2.2)else ui js ps i
 |_,_,_=>none
theorem zq:∀{js:List Nat} {ps:PL},js.Nodup→∀{k j:Nat} {p:TypeId×Nat×PQ},js[k]? =some j→ps[k]? =some p→ui js ps j=some (gg p.2.2)
 |[],_,_,k,j,p,h,_=>by simp at h
 |_::_,[],_,k,j,p,_,h=>by simp at h
 |j0::js,p0::ps,mB,k,j,p,h1,h2=>by
  unfold ui
  cases k with
  |zero=>simp at h1 h2;subst h1 h2;simp
  |succ k=>
   have cV:j0≠j:=fun e=>(gM.1 mB).1 (by rw[e];exact aj (by simpa using h1))
   rw[if_neg cV]
   exact zq (gM.1 mB).2 (by simpa using h1) (by simpa using h2)
theorem wQ:∀{js:List Nat} {ps:PL} {i:Nat},i∉js→ui js ps i=none
 |[],_,i,_=>by simp[ui]
 |_::_,[],i,_=>by simp[ui]
 |j::js,p::ps,i,h=>by
  unfold ui
  rw[if_neg (fun e=>h (by simp[e]))]
  exact wQ fun hi=>h (ab _ hi)
def zK(mm:MM):List Nat→Bool
 |[]=>true
 |j::r=>match jj mm j with
  |true=>false
  |false=>zK mm r
theorem xk{mm:MM}:∀{l:List Nat},zK mm l=true→∀j∈l,¬cU mm j
 |[],_,j,hj=>by cases hj
 |i::r,h,j,hj=>by
  unfold zK at h
  split at h
  ·cases h
  ·rename_i hf
   rcases ae.1 hj with rfl|hj
   ·exact fF hf
   ·exact xk h j hj
section
variable {C:Ctx} {n:Nat} {tm:TM} {mm eS:MM} {o:Oper} {d:Nat} {L l:List Oper} {T:TM→MM→Prop}
theorem yh{f:FuncId}{ι:Type}{Q:ι→Prop}{res:ι→ST}{ps:ι→PL}(Xl:lG C.P f)(js:List Nat){xs:Array Operand}{ts:Array TypeId}
 (ho:o.op=.call {callee:=.value (.func f),args:=xs,argTypes:=ts})
 (mB:lq js=true)(Ed:rf js=true)(OK:zK mm js=true)(hd:o.dst=some d)(hn:Nat.blt d n=true)(fZ:∀x,jt (res x)=true){H:Nat→Value}{Z:Nat→Nat}{a:Act}{w:World}{K:Act→World→Prop}{Qx:Exit→Act→World→Prop}(hm:Mod C H Z n tm mm a w)
 (xd:Calls C.P f (xs.toList.map a.eval).toArray w (MU Q res ps w (cO C H mm)))
 (hK:∀x a' w',Q x→Has C n ((d,res x)::bo tm d) (mn js (ps x)++mm) a' w'→K a' w'):o.wp C.P a w K Qx:=by
 unfold Oper.wp
 have dL:(execOp a.eval o).run C.P w=.ok (.enter f (xs.toList.map a.eval).toArray) w:=by
  have qY:xs.map a.eval=(xs.toList.map a.eval).toArray:=by simp[←cF]
  simp only[execOp,ho,resolve,qY,Deferred.ofValue,Act.eval,invoke,Sem.run_bind,Sem.run_pure,Result.andThen_ok,rA,jg,Xl w]
 rw[dL]
 show Calls _ _ _ _ _
 refine Calls.mono xd ?_
 rintro e w' ⟨x,v,hq,rfl,dy,oh,cC⟩
 have Lt:=nI mB
 have LC:=xk OK
 let H':Nat→Value:=fun i=>(ui js (ps x) i).getD (H i)
 have Bh:∀i,cU mm i→H' i=H i:=fun i hi=>by
  have:i∉js:=fun h=>LC i h hi
  simp[H',wQ this]
 have LL:∀(k j:Nat) (p:TypeId×Nat×PQ),js[k]? =some j→(ps x)[k]? =some p→H' j=gg p.2.2:=fun k j p h1 h2=>by
  simp[H',zq Lt h1 h2]
 have hIn:∀i,cU mm i→cU (mn js (ps x)++mm) i:=fun i ⟨p,hp,e⟩=>⟨p,bQ _ hp,e⟩
 have c9:∀(k j:Nat) (p:TypeId×Nat×PQ),js[k]? =some j→(ps x)[k]? =some p→∀b,Hb (H' j) b→w.heap.size≤b∧b < w'.heap.size:=by
  intro k j p h1 h2 b hb
  rw[LL k j p h1 h2]at hb
  obtain⟨q,rm,dS⟩:=dD.1 hb
  have hp:p∈ps x:=aj h2
  refine⟨oh.fresh b ⟨p,hp,q,rm,dS⟩,?_⟩
  obtain⟨m,Yb,WX⟩:=aC.1 rm
  exact fp.lt (v:=q.1) (xs:=q.2) ((oh.ok p hp).1 m q (by rw[aa Yb,WX])) dS
 have iP:∀b,cO C H' (mn js (ps x)++mm) b→cO C H mm b∨Kh (ps x) b:=by
  rintro b (hb|⟨q,hq,dS⟩)
  ·exact .inl (.inl hb)
  ·rcases aK.1 hq with hq|hq
   ·obtain⟨k,j,p,h1,h2,rfl⟩:=eL hq
    rw[show H' (j,_).1=_ from LL k j p h1 h2]at dS
    exact .inr ⟨p,aj h2,dD.1 dS⟩
   ·rw[Bh _ ⟨q,hq,rfl⟩]at dS
    exact .inl (.inr ⟨q,hq,dS⟩)
 refine hK x _ _ hq ⟨H',Z,?_⟩
 rw[hd]
 refine hm.build (fun _=>False) dy (fun _ _ h=>h.elim) (by simpa[Act.put]using hm.defers) (by simp[Act.put,hm.size]) ?_ ?_ ?_ ?_ ?_
 ·intro p hp lN
  rcases aK.1 hp with hp|hp
  ·obtain⟨k,j,q,h1,h2,rfl⟩:=eL hp
   have:=pk Ed j (aj h1)
   simp only at lN;omega
  ·rw[Bh _ ⟨p,hp,rfl⟩];exact hm.hg p hp lN
 ·intro p hp q hq he
  rcases aK.1 hp with hp|hp<;>rcases aK.1 hq with hq|hq
  ·obtain⟨k,j,r,h1,h2,rfl⟩:=eL hp
   obtain⟨k',j',r',FG,sE,rfl⟩:=eL hq
   have:k=k':=by
    obtain⟨l1,g1⟩:=ai.1 h1
    obtain⟨l2,g2⟩:=ai.1 FG
    exact pM Lt l1 l2 (by rw[g1,g2];exact he)
   subst this
   rw[h2]at sE;injection sE with sE;subst sE
   exact vC he J
  ·obtain⟨k,j,r,h1,h2,rfl⟩:=eL hp
   exact absurd ⟨q,hq,he.symm⟩ (LC j (aj h1))
  ·obtain⟨k,j,r,h1,h2,rfl⟩:=eL hq
   exact absurd ⟨p,hp,he⟩ (LC j (aj h1))
  ·exact hm.ids p hp q hq he
 ·intro p hp
  rcases aK.1 hp with hp|hp
  ·obtain⟨k,j,r,h1,h2,rfl⟩:=eL hp
   refine .inr ⟨fun b hb=>.inl (c9 k j r h1 h2 b hb),fun hMM' gb=>⟨LL k j r h1 h2,?_⟩⟩
   obtain⟨g1,g2⟩:=oh.ok r (aj h2)
   exact⟨fun k q hq=>fp.mono (v:=q.1) (xs:=q.2) (g1 k q hq) (fun _ _=>rfl) (ay _) (fun _ _ _=>rfl) (fun b _ hb=>iP b hb),g2⟩
  ·exact .inl ⟨hp,Bh _ ⟨p,hp,rfl⟩,rfl,fun _ _ h=>h,fun j hj km=>⟨hIn j km,Bh j km,rfl⟩⟩
 ·intro p hp q hq kl b Fl Fj
  rcases aK.1 hp with hp|hp<;>rcases aK.1 hq with hq|hq
  ·obtain⟨k,j,r,h1,h2,rfl⟩:=eL hp
   obtain⟨k',j',r',FG,sE,rfl⟩:=eL hq
   have RY:k≠k':=fun e=>by
    subst e
    rw[h1]at FG;injection FG with FG
    exact kl FG
   rw[show H' (j,_).1=_ from LL k j r h1 h2]at Fl
   rw[show H' (j',_).1=_ from LL k' j' r' FG sE]at Fj
   exact oh.sep k k' r r' h2 sE RY b (dD.1 Fl) (dD.1 Fj)
  ·obtain⟨k,j,r,h1,h2,rfl⟩:=eL hp
   have:=(c9 k j r h1 h2 b Fl).1
   rw[Bh _ ⟨q,hq,rfl⟩]at Fj
   have:=(hm.fresh q hq b Fj).2
   omega
  ·obtain⟨k,j,r,h1,h2,rfl⟩:=eL hq
   have:=(c9 k j r h1 h2 b Fj).1
   rw[Bh _ ⟨p,hp,rfl⟩]at Fl
   have:=(hm.fresh p hp b Fl).2
   omega
  ·rw[Bh _ ⟨p,hp,rfl⟩]at Fl
   rw[Bh _ ⟨q,hq,rfl⟩]at Fj
   exact hm.sep p hp q hq kl b Fl Fj
 ·intro p hp
  rcases ae.1 hp with rfl|hp
  ·refine .inr fun _ _=>?_
   rw[iD (by rw[hm.size];exact a6.mp hn)]
   exact cC.mono (fun i hi=>by rw[nE (fZ x)]at hi;cases hi) (ay _) (fun _ _ _=>rfl) (fun b _ hb=>iP b hb)
  ·obtain⟨h1,h2⟩:=cj hp
   exact .inl ⟨p,h1,rfl,fV h2,fun j hj km=>⟨hIn j km,Bh j km,rfl⟩⟩
theorem Kq{f:FuncId}{args:List SV}{ι:Type}{Q:ι→Prop}{res:ι→ST}{ps:ι→PL}(hc:I7 C.P f args Q res ps)(js:List Nat){xs:Array Operand}{ts:Array TypeId}
 (ho:o.op=.call {callee:=.value (.func f),args:=xs,argTypes:=ts})(cE:dr tm xs.toList=some args)(kI:kq [] args=some args)
 (mB:lq js=true)(Ed:rf js=true)(OK:zK mm js=true)(hd:o.dst=some d)(hn:Nat.blt d n=true)(fZ:∀x,jt (res x)=true){a:Act}{w:World}{K:Act→World→Prop}{Qx:Exit→Act→World→Prop}(hh:Has C n tm mm a w)
 (hK:∀x a' w',Q x→Has C n ((d,res x)::bo tm d) (mn js (ps x)++mm) a' w'→K a' w'):o.wp C.P a w K Qx:=by
 obtain⟨H,Z,hm⟩:=hh
 have FC:=gr hm cE
 have hI:∀i j,sV [] i=some j→cU mm j→cU [] i∧H i=H j:=fun i j h _=>by
  have:=(sU h).2;simp at this
 have OV:∀b,cO C H mm b→b < w.heap.size:=by
  rintro b (hb|⟨p,hp,c9⟩)
  ·exact ca (hm.m0 b hb) hm.ext.size
  ·exact(hm.fresh p hp b c9).2
 have xd:=hc.calls w (cO C H mm) H Z _ OV (pz hI (fun b _ h=>h) kI FC)
 exact yh hc.ok js ho mB Ed OK hd hn fZ hm xd hK
theorem vd{f:FuncId}{args:List SV}{ι:Type}{Q:ι→Prop}{res:ι→ST}{ps:ι→PL}(hc:I7 C.P f args Q res ps)(js:List Nat){xs:Array Operand}{ts:Array TypeId}
 (ho:o.op=.call {callee:=.value (.func f),args:=xs,argTypes:=ts})(cE:dr tm xs.toList=some args)(kI:kq [] args=some args)
 (mB:lq js=true)(Ed:rf js=true)(OK:zK mm js=true)(hd:o.dst=some d)(hn:Nat.blt d n=true)(hg:aY L tm o=some true)(fZ:∀x,jt (res x)=true)
 (k:∀x,Q x→SOps C n L.toArray l ((d,res x)::bo tm d) (mn js (ps x)++mm) T):SOps C n L.toArray (o::l) tm mm T:=by
 intro a w hh
 unfold wpList
 rw[if_pos (gC (gD hg) hh)]
 exact .inl (Kq hc js ho cE kI mB Ed OK hd hn fZ hh fun x a' w' hq h'=>k x hq a' w' h')
def E6(d:Nat):TM→Bool
 |[]=>true
 |(t,_)::r=>match Nat.beq t d with
  |true=>false
  |false=>E6 d r
theorem pQ{d:Nat}:∀{l:TM},E6 d l=true→∀p∈l,p.1≠d
 |[],_,p,hp=>by cases hp
 |(t,s)::r,h,p,hp=>by
  unfold E6 at h
  split at h
  ·cases h
  ·rename_i hb
   rcases ae.1 hp with rfl|hp
   ·exact fun e=>by rw[show t=d from e]at hb;simp at hb
   ·exact pQ h p hp
variable {ι:Type} {cN:TM} {ET:Nat→ι→TM} {MMx:Nat→ι→MM} {k:Nat} {x:ι}
theorem nf(hg:aY L (aX (aI L o) (cN++ET k x)) o=some true)
 (h:∀(tm:TM) (a:Act) (w:World) (K:Act→World→Prop) (Q:Exit→Act→World→Prop),(∀p∈aX (aI L o) (cN++ET k x),p∈tm)→Has C n tm (MMx k x) a w→
   (∀x' tm' a' w',(∀p∈cN,p∈tm→p∈tm')→(∀p∈ET (k+1) x',p∈tm')→Has C n tm' (MMx (k+1) x') a' w'→K a' w')→o.wp C.P a w K Q):lF C n L cN ET MMx k x o:=by
 intro tm a w K Q hl he hh hK
 have eA:∀p∈aX (aI L o) (cN++ET k x),p∈tm:=fun p hp=>by
  obtain⟨h1,h2⟩:=dk.1 hp
  exact(aK.1 h1).elim (fun h=>hl p h h2) (he p)
 rw[if_pos (gC (gD hg) (hh.kX eA))]
 exact h tm a w K Q eA hh hK
theorem ng{Θ:da}(bt:a8 C.P Θ){t:TypeId}{p q:Operand}{z cz e:Nat}{ag:Bool}{zt:Option (List CT)}{ei:fN}{zr:List CT}{i:Nat}{uh:Bool}{sz:Nat}{xs ys:List (List CT)}{qs:PQ}{v:Value}
 (ho:o.op=.call {callee:=.builtin .append,args:=⟨[p,q]⟩,argTypes:=⟨[t,t]⟩})(ht:aP Θ t=some ⟨z,cz,ag,zt,.slice e⟩)(dO:aP Θ e=some ei)(hz:ei.zero=some zr)
 (cM:Nat.beq ei.size sz=true)(lx:Nat.blt 0 ei.size=true)(hx:aQ (aX (aI L o) (cN++ET k x)) p=some (.c (.val v)))(hi:getM (MMx k x) i=some (.bF e sz qs))(hy:aQ (aX (aI L o) (cN++ET k x)) q=some (.c (.slice uh sz ys)))
 (iJ:Nat.blt i given=true)(gA:eD i (MMx k x)=true)(hd:o.dst=some d)(hn:Nat.blt d n=true)(hg:aY L (aX (aI L o) (cN++ET k x)) o=some true)(qX:gn i cN=true)(M4:E6 d cN=true)
 (m:Nat)(hk:qs[m]? =some (v,xs))(gW:xs.length+ys.length≤9223372036854775807∧(xs.length+ys.length) * ei.bytes≤140737488355328)
 (X:Value→ι)(vr:∀v',ET (k+1) (X v')=[(d,.v (.one (.c (.val v'))))])(hM:∀v',MMx (k+1) (X v')=cS (MMx k x) i (.bF e sz (qs.set m (v',xs++ys)))):lF C n L cN ET MMx k x o:=by
 refine nf hg fun tm a w K Q eA hh hK=>?_
 obtain⟨v',w',dL,qg⟩:=wi (tm:=aX (aI L o) (cN++ET k x)++tm) bt ho ht dO hz cM lx (iZ hx) hi hk (iZ hy) iJ gA hd hn gW (hh.kX fun p hp=>(aK.1 hp).elim (eA p) id)
 unfold Oper.wp
 rw[dL]
 refine hK (X v') _ _ _ (fun p hp vl=>?_) (fun p hp=>?_) (by rw[hM];exact qg)
 ·exact ab _ (b9 (o9 (gi qX p hp) (bQ _ vl)) (pQ M4 p hp))
 ·rw[vr]at hp
  rw[aq.1 hp];exact ah
theorem SF{s:ST}(h:M8 C n (MMx k x) o (aX (aI L o) (cN++ET k x)) d s)(hg:aY L (aX (aI L o) (cN++ET k x)) o=some true)(M4:E6 d cN=true)
 (vr:ET (k+1) x=[(d,s)])(hM:MMx (k+1) x=MMx k x):lF C n L cN ET MMx k x o:=by
 refine nf hg fun tm a w K Q eA hh hK=>?_
 refine h.2 tm eA a w K Q hh fun a' w' h'=>hK x _ a' w' (fun p hp vl=>?_) (fun p hp=>?_) (by rw[hM];exact h')
 ·exact ab _ (b9 vl (pQ M4 p hp))
 ·rw[vr]at hp
  rw[aq.1 hp];exact ah
theorem L8{Θ:da}(bt:a8 C.P Θ){t:TypeId}{ti:fN}{p q:Operand}{i off:Nat}{cs r:List SC}{s:SV}
 (ho:o.op=.store t p q)(ht:aP Θ t=some ti)(hx:aQ (aX (aI L o) (cN++ET k x)) p=some (.ptr i off))(hi:getM (MMx k x) i=some (.box cs))
 (hy:cx (aX (aI L o) (cN++ET k x)) q=some s)(hk:s.cells.all SC.known=true)(cM:Nat.beq s.cells.length ti.size=true)(hs:gl cs off s.cells=some r)(hd:o.dst=none)
 (hg:aY L (aX (aI L o) (cN++ET k x)) o=some true)(vr:ET (k+1) x=[])(hM:MMx (k+1) x=cS (MMx k x) i (.box r)):lF C n L cN ET MMx k x o:=by
 refine nf hg fun tm a w K Q eA hh hK=>?_
 refine(nG (tm:=aX (aI L o) (cN++ET k x)++tm) bt ho ht (iZ hx) hi (mZ hy) hk cM hs hd).wp a w K Q (hh.kX fun p hp=>(aK.1 hp).elim (eA p) id) fun a' w' h'=>?_
 exact hK x _ a' w' (fun p hp vl=>bQ _ vl) (fun p hp=>by rw[vr]at hp;cases hp) (by rw[hM];exact h')
variable {cq:TM} {E:List Nat} {i:Nat} {mmf:Nat→MM} {TF:TM→Prop} {p q:Operand} {ty rk:TypeId}
theorem L3{st:ST}(h:∀mm',ea C n o (aX (aI L o) tm) mm' d st)(lg:eV E i=false)(hg:aY L (aX (aI L o) tm) o=some true)(hd:o.dst=some d)
 (k:FOps C n mmf L cq E (i+1) l ((d,st)::bo tm d) TF):FOps C n mmf L cq E i (o::l) tm TF:=FOps.step lg hg (fun mm' _ _=>(h mm').Em) hd k
theorem U3{Θ:da}(bt:a8 C.P Θ){nn:Bool}{sz:Nat}{xs:List (List CT)}{kd:IntKind}{m:Int}{e:Nat}{z cz:Nat}{ag:Bool}{zr:Option (List CT)}{ei:fN}
 (ho:o.op=.indexAddr ty p q)(ht:aP Θ ty=some ⟨z,cz,ag,zr,.slice e⟩)(dO:aP Θ e=some ei)(hx:aQ (aX (aI L o) tm) p=some (.c (.slice nn sz xs)))(cM:Nat.beq ei.size sz=true)
 (hi:aQ (aX (aI L o) tm) q=some (.c (.int kd m)))(hd:o.dst=some d)(hn:Nat.blt d n=true)(hg:aY L (aX (aI L o) tm) o=some true)(lg:eV E i=false)
 (j:Nat)(cs:List CT)(hm:m=(j:Int))(hj:xs[j]? =some cs)(k:FOps C n mmf L cq E (i+1) l ((d,.v (.one (.iw cs)))::bo tm d) TF):FOps C n mmf L cq E i (o::l) tm TF:=
 L3 (fun mm'=>wk bt ho ht dO cM hx hi hm hj hd hn) lg hg hd k
theorem SB{Θ:da}(bt:a8 C.P Θ){r:Nat}{qs:PQ}{v:Value}{sz:Nat}{xs:List (List CT)}{kd:IntKind}{m:Int}{e e':Nat}{z cz:Nat}{ag:Bool}{zr:Option (List CT)}{ei:fN}
 (ho:o.op=.indexAddr ty p q)(ht:aP Θ ty=some ⟨z,cz,ag,zr,.slice e⟩)(dO:aP Θ e=some ei)(hx:aQ (aX (aI L o) tm) p=some (.c (.val v)))(hi:getM (mmf i) r=some (.bF e' sz qs))(cM:Nat.beq ei.size sz=true)
 (hy:aQ (aX (aI L o) tm) q=some (.c (.int kd m)))(hd:o.dst=some d)(hn:Nat.blt d n=true)(hg:aY L (aX (aI L o) tm) o=some true)(lg:eV E i=false)
 (c:Nat)(hk:qs[c]? =some (v,xs))(j:Nat)(hm:m=(j:Int))(hj:j < xs.length)(k:FOps C n mmf L cq E (i+1) l ((d,.v (.one (.c (.val (lL v (j * sz))))))::bo tm d) TF):FOps C n mmf L cq E i (o::l) tm TF:=
 FOps.step lg hg (fun mm' hb hu=>(vi bt ho ht dO cM hx (kr hb hu _ _ hi) hk hy hm hj hd hn).Em) hd k
theorem G5{Θ:da}(bt:a8 C.P Θ){t:TypeId}{z cz e len:Nat}{ag:Bool}{zt:Option (List CT)}{ei:fN}{zr:List CT}{parts:Array (Nat×Operand)}{r:List SC}{cts:List CT}{xs:List (List CT)}{ct:CT}
 (ho:o.op=.buildSlice t len parts)(ht:aP Θ t=some ⟨z,cz,ag,zt,.slice e⟩)(dO:aP Θ e=some ei)(hz:ei.zero=some zr)
 (hb:Nat.ble (len * ei.size) 16777216=true)(lx:Nat.blt 0 ei.size=true)
 (hl:nL (fun i=>some (i * ei.size,ei.size)) (aX (aI L o) tm) (tN (len * ei.size)) parts.toList=some r)(hc:iG r=some cts)(hx:mx ei.size len cts=some xs)
 (hd:o.dst=some d)(hn:Nat.blt d n=true)(hg:aY L (aX (aI L o) tm) o=some true)(lg:eV E i=false)(hle:yB (.slice true ei.size xs) ct)
 (k:FOps C n mmf L cq E (i+1) l ((d,.v (.one (.c ct)))::bo tm d) TF):FOps C n mmf L cq E i (o::l) tm TF:=
 FOps.step lg hg (fun _ _ _=>Ko bt ho ht dO hz hb lx hl hc hx hle hd hn) hd k
theorem vK{Θ:da}(bt:a8 C.P Θ){r:Nat}{qs:PQ}{v:Value}{sz:Nat}{xs:List (List CT)}{kd:IntKind}{m:Int}{e e':Nat}{z cz:Nat}{ag:Bool}{zr:Option (List CT)}{ei:fN}
 (ho:o.op=.indexAddr ty p q)(ht:aP Θ ty=some ⟨z,cz,ag,zr,.slice e⟩)(dO:aP Θ e=some ei)(hx:aQ tm p=some (.c (.val v)))(hi:getM mm r=some (.bF e' sz qs))(cM:Nat.beq ei.size sz=true)
 (hy:aQ tm q=some (.c (.int kd m)))(hd:o.dst=some d)(hn:Nat.blt d n=true)(hg:aY L tm o=some true)
 (c:Nat)(hk:qs[c]? =some (v,xs))(j:Nat)(hm:m=(j:Int))(hj:j < xs.length)(g:SOps C n L.toArray l ((d,.v (.one (.c (.val (lL v (j * sz))))))::bo tm d) mm T):SOps C n L.toArray (o::l) tm mm T:=
 cB (vi bt ho ht dO cM hx hi hk hy hm hj hd hn).wp hg g
theorem JM{Θ:da}(bt:a8 C.P Θ){t:TypeId}{ti:fN}{r j e sz:Nat}{qs:PQ}{v:Value}{xs:List (List CT)}{s:SV}{cs:List CT}
 (ho:o.op=.store t p q)(ht:aP Θ t=some ti)(hx:aQ tm p=some (.c (.val (lL v (j * sz)))))(hi:getM mm r=some (.bF e sz qs))
 (hy:cx tm q=some s)(hc:iG s.cells=some cs)(cM:Nat.beq cs.length ti.size=true)(To:Nat.beq ti.size sz=true)(GQ:s.cells.all SC.known=true)(iJ:Nat.blt r given=true)(gA:eD r mm=true)(hd:o.dst=none)(hg:aY L tm o=some true)
 (c:Nat)(hk:qs[c]? =some (v,xs))(hj:j < xs.length)(g:SOps C n L.toArray l (jF r tm) (cS mm r (.bF e sz (qs.set c (v,xs.set j cs)))) T):SOps C n L.toArray (o::l) tm mm T:=
 cB (HR bt ho ht hx hi hk hj hy hc cM To GQ iJ gA hd).wp hg g
end
end Go.Sy
namespace Go.Sy
open Go.RowKit
def TQ:MM→MM→Prop
 |[],_=>True
 |(i,o)::r,mm=>getM mm i=some o∧TQ r mm
theorem e6{mm:MM}:∀{l:MM},TQ l mm→∀q∈l,q∈mm
 |[],_,q,hq=>by cases hq
 |(i,o)::r,h,q,hq=>by
  rcases ae.1 hq with rfl|hq
  ·exact aT h.1
  ·exact e6 h.2 q hq
theorem gY.nil{ι:Type}{C:Ctx}{n:Nat}{L:List Oper}{cN:TM}{ET:Nat→ι→TM}{MMx:Nat→ι→MM}{k:Nat}:gY C n L cN ET MMx k []:=trivial
theorem gY.cons{ι:Type}{C:Ctx}{n:Nat}{L:List Oper}{cN:TM}{ET:Nat→ι→TM}{MMx:Nat→ι→MM}{k e:Nat}{r:List Nat}{o:Oper}(ho:qR L e=some o)(h:∀x,lF C n L cN ET MMx k x o)(g:gY C n L cN ET MMx (k+1) r):gY C n L cN ET MMx k (e::r):=
 ⟨fun o' dv x=>by rw[ho]at dv;injection dv with dv;subst dv;exact h x,g⟩
theorem SV.iA{i:Nat}{r:SC}(hr:r.bw=[])(s:SV):∀j∈(s.sub i r).bw,j≠i:=by
 intro j hj
 cases s with
 |one x=>exact(SC.iA hr x j hj).2
 |agg xs=>
  simp only[SV.sub,rJ,SV.bw,bu,aL]at hj
  obtain⟨c,⟨c',_,rfl⟩,hj⟩:=hj
  exact(SC.iA hr c' j hj).2
theorem ST.iA{i:Nat}{r:SC}(hr:r.bw=[])(s:ST):∀j∈(s.sub i r).bw,j≠i:=by
 intro j hj
 cases s with
 |v x=>exact SV.iA hr x j hj
 |fo xs=>
  simp only[ST.sub,yP,ST.bw,bu,aL]at hj
  obtain⟨c,⟨c',_,rfl⟩,hj⟩:=hj
  exact SV.iA hr c' j hj
theorem MO.iA{i:Nat}{r:SC}(hr:r.bw=[])(o:MO):∀j∈(o.sub i r).bw,j≠i:=by
 intro j hj
 cases o with
 |box cs=>
  simp only[MO.sub,rJ,MO.bw,bu,aL]at hj
  obtain⟨c,⟨c',_,rfl⟩,hj⟩:=hj
  exact(SC.iA hr c' j hj).2
 |arr=>cases hj
 |fw=>cases hj
 |bF=>cases hj
section
variable {C:Ctx} {n:Nat} {tm:TM} {mm:MM}
theorem Has.Jy{a:Act}{w:World}{i e sz:Nat}{nn:Bool}{xs:List (List CT)}(hi:getM mm i=some (.arr nn e sz xs))(iJ:Nat.blt i given=true)(h:Has C n tm mm a w):
 ∃v,Has C n (uL i (.c (.val v)) tm) ((i,.bF e sz [(v,xs)])::im i (.c (.val v)) mm) a w:=by
 obtain⟨H,Z,hm⟩:=h
 obtain⟨hz,us,h1,h2,h3,h4⟩:=hm.mem _ (aT hi)
 have h1:w.ownsRow 0 e sz (H i) xs.length us:=h1
 have uU:(H i).oneCell'=true:=by
  rcases h1.2 with⟨hh,_⟩|⟨g,cap,cur,hh,_⟩<;>rw[hh]<;>rfl
 have Fz:∀b,Hb (H i) b↔hblk (H i)=some b:=fun b=>by rw[mU h1];exact tQ h1 b
 refine⟨H i,Sy.jV H i (gg [(H i,xs)]),Z,?_⟩
 have oh:∀b,Hb (gg [(H i,xs)]) b↔Hb (H i) b:=fun b=>by
  rw[dD,Fz]
  simp
 have D9:(SC.c (.val (H i))).bw=[]:=rfl
 have fY:∀p∈im i (.c (.val (H i))) mm,∃q∈mm,q.1=p.1∧p.2=q.2.sub i (.c (.val (H i)))∧p.1≠i:=fun p hp=>by
  obtain⟨q,hq,e1,e2,e3⟩:=fU hp
  exact⟨q,hq,e1,e2,by rw[←e1];exact e3⟩
 have Ee:∀q,q≠i→Sy.jV H i (gg [(H i,xs)]) q=H q:=fun q hq=>bG _ _ hq
 have hM:∀b,cO C (Sy.jV H i (gg [(H i,xs)])) ((i,.bF e sz [(H i,xs)])::im i (.c (.val (H i))) mm) b→cO C H mm b:=by
  rintro b (hb|⟨p,hp,c9⟩)
  ·exact .inl hb
  ·rcases ae.1 hp with rfl|hp
   ·rw[bm]at c9
    exact .inr ⟨_,aT hi,(oh b).1 c9⟩
   ·obtain⟨q,hq,e1,_,e3⟩:=fY p hp
    rw[Ee _ e3]at c9
    exact .inr ⟨q,hq,by rw[e1];exact c9⟩
 have hI:∀j,cU mm j→cU ((i,.bF e sz [(H i,xs)])::im i (.c (.val (H i))) mm) j:=by
  intro j hj
  by_cases lz:j=i
  ·exact⟨_,ah,lz.symm⟩
  ·obtain⟨p,hp,e1⟩:=rI (i:=i) (r:=.c (.val (H i))) lz hj
   exact⟨p,ab _ hp,e1⟩
 have hr:∀(M':Nat→Prop) v,v=H i→bS (cU ((i,.bF e sz [(H i,xs)])::im i (.c (.val (H i))) mm)) H Z w M' v (.c (.val (H i))):=fun M' v hv=>by
  subst hv;exact aV.val _ uU
 refine⟨hm.defers,hm.size,hm.Oa,?_,hm.ext,hm.m0,?_,?_,?_,?_,?_⟩
 ·intro p hp lN
  rcases ae.1 hp with rfl|hp
  ·have:=a6.mp iJ;simp only at lN;omega
  ·obtain⟨q,hq,e1,_,e3⟩:=fY p hp
   rw[Ee _ e3,←e1]
   exact hm.hg q hq (by rw[e1];exact lN)
 ·intro p hp q hq he
  rcases ae.1 hp with rfl|hp<;>rcases ae.1 hq with rfl|hq
  ·rfl
  ·obtain⟨_,_,_,_,e3⟩:=fY q hq;exact absurd he.symm e3
  ·obtain⟨_,_,_,_,e3⟩:=fY p hp;exact absurd he e3
  ·obtain⟨p',sa,e1,e2,_⟩:=fY p hp
   obtain⟨q',rm,f1,f2,_⟩:=fY q hq
   have:=hm.ids p' sa q' rm (by rw[e1,f1];exact he)
   subst this
   exact vC he (by rw[e2,f2])
 ·intro p hp
  rcases ae.1 hp with rfl|hp
  ·refine⟨by rw[bm];rfl,fun k q hq=>?_,fun k l q r hq gL j7=>?_⟩
   ·cases k with
    |zero=>
     simp at hq;subst hq
     exact fp.mono (v:=H i) (xs:=xs) ⟨us,h1,h3,h4⟩ (fun _ _=>rfl) (ay _) (fun _ _ _=>rfl) (fun b _ hb=>hM b hb)
    |succ k=>simp at hq
   ·cases k with
    |zero=>
     cases l with
     |zero=>exact absurd J j7
     |succ l=>simp at gL
    |succ k=>simp at hq
  ·obtain⟨q,hq,e1,e2,e3⟩:=fY p hp
   have:=(hm.mem q hq).uM (I':=cU ((i,.bF e sz [(H i,xs)])::im i (.c (.val (H i))) mm)) D9 (hr _) (fun j _ hj=>hI j hj) (fun b _ hb=>hM b hb)
   rw[←e2,e1]at this
   exact this.mono ⟨Ee _ e3,rfl⟩ (fun _ _=>rfl) (fun j hj Dq=>⟨Dq,Ee j (MO.iA D9 q.2 j (by rw[←e2];exact hj)),rfl⟩) (ay _) (fun _ _ _=>rfl) (fun _ _ h=>h)
 ·intro p hp b hb
  rcases ae.1 hp with rfl|hp
  ·rw[bm]at hb
   exact hm.fresh _ (aT hi) b ((oh b).1 hb)
  ·obtain⟨q,hq,e1,_,e3⟩:=fY p hp
   rw[Ee _ e3]at hb
   rw[←e1]at hb⊢
   exact hm.fresh q hq b hb
 ·intro p hp q hq kl b c9 dS
  have key:∀p∈(i,MO.bF e sz [(H i,xs)])::im i (.c (.val (H i))) mm,Hb (Sy.jV H i (gg [(H i,xs)]) p.1) b→∃p'∈mm,p'.1=p.1∧Hb (H p'.1) b:=by
   intro p hp hb
   rcases ae.1 hp with rfl|hp
   ·rw[bm]at hb
    exact⟨_,aT hi,rfl,(oh b).1 hb⟩
   ·obtain⟨q,hq,e1,_,e3⟩:=fY p hp
    rw[Ee _ e3,←e1]at hb
    exact⟨q,hq,e1,hb⟩
  obtain⟨p',sa,e1,x7⟩:=key p hp c9
  obtain⟨q',rm,e2,Sg⟩:=key q hq dS
  exact hm.sep p' sa q' rm (by rw[e1,e2];exact kl) b x7 Sg
 ·intro p hp
  obtain⟨q,hq,e1,e2⟩:=vH hp
  have:=(hm.tmps q hq).uM (I':=cU ((i,.bF e sz [(H i,xs)])::im i (.c (.val (H i))) mm)) D9 (hr _) (fun j _ hj=>hI j hj) (fun b _ hb=>hM b hb)
  rw[←e2,e1]at this
  exact this.mono (fun j hj Dq=>⟨Dq,Ee j (ST.iA D9 q.2 j (by rw[←e2];exact hj)),rfl⟩) (ay _) (fun _ _ _=>rfl) (fun _ _ h=>h)
theorem Has.Wg{a:Act}{w:World}(t:Nat)(ht:jD tm t=some (.v (.one (.c .bA))))(h:Has C n tm mm a w):Has C n ((t,.v (.one (.c (.val (.slice none 0 0)))))::bo tm t) mm a w:=by
 obtain⟨H,Z,hm⟩:=h
 refine⟨H,Z,{hm with tmps:=fun p hp=>?_}⟩
 rcases ae.1 hp with rfl|hp
 ·have h1:=hm.tmps _ (gX ht)
  have h2:a.tmps.getD t undef=.slice none 0 0:=aV.jy h1
  show aV _ _ _ _
  rw[h2];exact aV.val _ J
 ·exact hm.tmps p (cj hp).1
variable {f:FuncId} {R:Ending→World→Prop} {k:List Item} {L l:List Oper} {T:TM→MM→Prop}
theorem LV(t:Nat)(ht:jD tm t=some (.v (.one (.c .bA))))(g:Goes C f n R k ((t,.v (.one (.c (.val (.slice none 0 0)))))::bo tm t) mm):Goes C f n R k tm mm:=g.mono fun _ _ h=>h.Wg t ht
theorem mX(i:Nat){e sz:Nat}{nn:Bool}{xs:List (List CT)}(hi:getM mm i=some (.arr nn e sz xs))(iJ:Nat.blt i given=true)
 (g:∀v,Goes C f n R k (uL i (.c (.val v)) tm) ((i,.bF e sz [(v,xs)])::im i (.c (.val v)) mm)):Goes C f n R k tm mm:=fun a w hh=>by
 obtain⟨v,h⟩:=hh.Jy hi iJ
 exact g v a w h
theorem lh(j e sz:Nat)(hj:Nat.blt j given=true)(hf:jj mm j=false)(g:Goes C f n R k tm ((j,.bF e sz [])::mm)):Goes C f n R k tm mm:=g.mono fun _ _ h=>h.Od j e sz hj hf
theorem j8(i:Nat){e sz:Nat}{qs:PQ}(hi:getM mm i=some (.bF e sz qs))(iJ:Nat.blt i given=true)(gA:eD i mm=true)(qX:gn i tm=true)
 (g:Goes C f n R k tm (cS mm i (.bF e sz (qs++[(.slice none 0 0,[])])))):Goes C f n R k tm mm:=g.mono fun _ _ h=>h.Oc hi iJ gA qX
theorem xg(i j:Nat){cs:List SC}(hi:getM mm i=some (.box cs))(hj:s9 cs j=some (.c .bA))(g:Goes C f n R k tm (cS mm i (.box (oB cs j (.c (.val (.slice none 0 0))))))):Goes C f n R k tm mm:=
 g.mono fun _ _ h=>h.Ro hi hj
theorem zJ(i j c:Nat){e sz:Nat}{v:Value}{xs:List (List CT)}{cs:List SC}(km:Nat.beq i j=false)(hi:getM mm i=some (.bF e sz [(v,xs)]))(iJ:Nat.blt i given=true)(hj:getM mm j=some (.box cs))
 (hc:s9 cs c=some (.c (.val v)))(gA:eD i mm=true)(qX:gn i tm=true)(g:Goes C f n R k tm (cS (fO [i] mm) j (.box (oB cs c (.c (.slice false sz xs)))))):Goes C f n R k tm mm:=
 g.mono fun _ _ h=>h.O9 i j c km hi iJ hj hc gA qX
theorem xh(i j:Nat){cs:List SC}{x:CT}(y:CT)(hi:getM mm i=some (.box cs))(hj:s9 cs j=some (.c x))(hle:yB x y)(g:Goes C f n R k tm (cS mm i (.box (oB cs j (.c y))))):Goes C f n R k tm mm:=
 g.mono fun _ _ h=>h.YQ hi hj hle
end
section
variable {C:Ctx} {n:Nat} {mmf:Nat→MM} {L l:List Oper} {cq tm:TM} {E:List Nat} {i:Nat} {o:Oper} {d:Nat} {TF:TM→Prop} {p q:Operand} {ty rk:TypeId}
end
end Go.Sy
namespace Go.Sy
open Go.RowKit
section
variable {C:Ctx} {n:Nat} {mm:MM} {o:Oper} {d:Nat} {x y:Operand}
theorem Cr{Θ:da}(bt:a8 C.P Θ){D7:TM}{t:TypeId}{z cz e:Nat}{ag:Bool}{zt:Option (List CT)}{ei:fN}{zr:List CT}{uh:Bool}{sz:Nat}{ys:List (List CT)}
 (ho:o.op=.call {callee:=.builtin .append,args:=⟨[x,y]⟩,argTypes:=⟨[t,t]⟩})(ht:aP Θ t=some ⟨z,cz,ag,zt,.slice e⟩)(dO:aP Θ e=some ei)(hz:ei.zero=some zr)
 (cM:Nat.beq ei.size sz=true)(lx:Nat.blt 0 ei.size=true)(hx:aQ D7 x=some (.c .bA))(hy:aQ D7 y=some (.c (.slice uh sz ys)))(hd:o.dst=some d)(hn:Nat.blt d n=true)
 (gW:ys.length≤9223372036854775807∧ys.length * ei.bytes≤140737488355328):M8 C n mm o D7 d (.v (.one (.c (.slice false sz ys)))):=by
 refine⟨⟨hd,hn⟩,fun tm' hs=>xX.wp ?_⟩
 intro a w ⟨H,Z,Iv⟩
 have hm:=Iv.sub hs
 have Fg:ei.size=sz:=aJ cM
 subst Fg
 have hv:a.eval x=.slice none 0 0:=aV.jy (aU hm hx)
 obtain⟨v',w',news,hr,h2,h3,h5,um,uk⟩:=sv (xs:=[]) (ty:=o.type) (v:=.slice none 0 0) (us:=[]) bt ht dO hz (a6.mp lx) (by simpa using gW) (World.ownsRow_nil _ _ _ _) (aU hm hy:aV w (cO C H mm) (a.eval y) (.slice uh ei.size ys))
 have dL:(execOp a.eval o).run C.P w=.ok (.value v') w':=by
  unfold execOp
  simp only[ho,resolve,invoke,builtin,Sem.run_bind,Sem.run_pure,Result.andThen_ok,cF,bN,jd,hv,hr]
 have BJ:hblk v'=v'.ownBlock:=mU h2
 have Sl:∀b,cO C H mm b→b < w.heap.size:=by
  rintro b (hb|⟨p,hp,c9⟩)
  ·exact ca (hm.m0 b hb) hm.ext.size
  ·exact(hm.fresh p hp b c9).2
 have dy:Ext (fun _=>False) w w':=⟨h3.os,h3.tape,h3.output,h3.size,fun k hk _=>h3.block k hk (fun e=>by cases e)⟩
 have jh:fp w' (cO C H mm) e ei.size v' ys:=
  ⟨news,by simpa using h2,um,fun i q hq j c hc=>by
   obtain⟨u,hu,hr⟩:=uk i q hq j c hc
   exact⟨u,hu,hr.mono h3.size (fun b hb _=>dy.block b hb (fun h=>h)) (fun _ _ h=>h)⟩⟩
 have cC:aV w' (cO C H mm) v' (.slice false ei.size ys):=jh.frozen (fun _ _ h=>h) (fun b hb hM=>by
  have bj:=Sl b hM
  rcases h5 with h5|h5
  ·rw[BJ,h5]at hb;cases hb
  ·rw[BJ,h5]at hb;injection hb with hb;omega)
 refine .inl ⟨_,_,dL,H,Z,?_⟩
 rw[hd]
 refine Iv.build (fun _=>False) dy (fun _ _ h=>h.elim) (by simpa[Act.put]using hm.defers) (by simp[Act.put,hm.size]) hm.hg hm.ids
  (fun p hp=>.inl ⟨hp,rfl,rfl,fun _ _ h=>h,fun _ _ hj=>⟨hj,rfl,rfl⟩⟩) hm.sep (fun p hp=>?_)
 rcases ae.1 hp with rfl|hp
 ·refine .inr fun _ _=>?_
  rw[iD (by rw[hm.size];exact a6.mp hn)]
  exact cC
 ·obtain⟨h1,sE⟩:=cj hp
  exact .inl ⟨p,h1,rfl,fV sE,fun _ _ hj=>⟨hj,rfl,rfl⟩⟩
end
section
variable {C:Ctx} {n:Nat} {eS:MM} {L l:List Oper} {cq tm:TM} {R:List Rec} {i:Nat} {o:Oper} {d t:Nat} {T:TM→MM→Prop} {x y:Operand}
end
theorem Gd{i:Nat}{r:SC}:∀{mm:MM},(∀q∈mm,q.1≠i∧i∉q.2.bw)→im i r mm=mm
 |[],_=>rfl
 |(t,o)::l,h=>by
  obtain⟨h1,h2⟩:=h (t,o) ah
  have hb:Nat.beq t i=false:=by
    cases hb:Nat.beq t i with
    |false=>rfl
    |true=>exact absurd (aJ hb) h1
  show(match Nat.beq t i with|true=>im i r l|false=>(t,o.sub i r)::im i r l)=_
  rw[hb]
  show(t,o.sub i r)::im i r l=_
  rw[MO.nA h2,Gd fun q hq=>h q (ab _ hq)]
section
variable {ι:Type} {C:Ctx} {n:Nat} {L:List Oper} {cN:TM} {ET:Nat→ι→TM} {MMx:Nat→ι→MM} {k:Nat} {x:ι} {o:Oper} {d:Nat} {p q:Operand}
theorem sj{Θ:da}(bt:a8 C.P Θ){t:TypeId}{z cz e:Nat}{ag:Bool}{zt:Option (List CT)}{ei:fN}{zr:List CT}(j:Nat){uh:Bool}{sz:Nat}{ys:List (List CT)}
 (ho:o.op=.call {callee:=.builtin .append,args:=⟨[p,q]⟩,argTypes:=⟨[t,t]⟩})(ht:aP Θ t=some ⟨z,cz,ag,zt,.slice e⟩)(dO:aP Θ e=some ei)(hz:ei.zero=some zr)
 (cM:Nat.beq ei.size sz=true)(lx:Nat.blt 0 ei.size=true)(hx:aQ (aX (aI L o) (cN++ET k x)) p=some (.c .bA))(hy:aQ (aX (aI L o) (cN++ET k x)) q=some (.c (.slice uh sz ys)))
 (iJ:Nat.blt j given=true)(hf:jj (MMx k x) j=false)(gA:eD j (MMx k x)=true)(qX:gn j cN=true)(hd:o.dst=some d)(hn:Nat.blt d n=true)(hg:aY L (aX (aI L o) (cN++ET k x)) o=some true)(M4:E6 d cN=true)
 (gW:ys.length≤9223372036854775807∧ys.length * ei.bytes≤140737488355328)
 (X:Value→ι)(vr:∀v,ET (k+1) (X v)=[(d,.v (.one (.c (.val v))))])(hM:∀v,MMx (k+1) (X v)=(j,.bF e sz [(v,ys)])::MMx k x):lF C n L cN ET MMx k x o:=by
 refine nf hg fun tm a w K Q eA hh hK=>?_
 have WR:eD j ((j,.arr false e sz [])::MMx k x)=true:=by
  show(match eV [] j with|true=>false|false=>eD j (MMx k x))=true
  exact gA
 have VO:=wo (tm:=aX (aI L o) (cN++ET k x)++tm) bt j ho ht dO hz cM lx (iZ hx) (iZ hy) iJ hf WR hd hn gW
 refine VO.wp a w K Q (hh.kX fun p hp=>(aK.1 hp).elim (eA p) id) fun a' w' h'=>?_
 obtain⟨v,h⟩:=h'.Jy (i:=j) (nn:=false) (e:=e) (sz:=sz) (xs:=ys) (by simp[getM]) iJ
 have OV:im j (.c (.val v)) ((j,.arr false e sz ys)::MMx k x)=MMx k x:=by
  show(match Nat.beq j j with|true=>im j (.c (.val v)) (MMx k x)|false=>_)=_
  rw[Nat.beq_refl]
  exact Gd (fun q hq=>⟨fun e=>fF hf ⟨q,hq,e⟩,fD gA hq⟩)
 rw[OV]at h
 refine hK (X v) _ a' w' (fun p hp vl=>?_) (fun p hp=>?_) (by rw[hM];exact h)
 ·have hn:=gi qX p hp
  exact yO hn (ab _ (b9 (o9 hn (bQ _ vl)) (pQ M4 p hp)))
 ·rw[vr]at hp
  rw[aq.1 hp]
  show _∈(d,ST.sub j (.c (.val v)) (.v (.one (.own j))))::_
  have:ST.sub j (.c (.val v)) (.v (.one (.own j)))=.v (.one (.c (.val v))):=by
   show ST.v (.one (match Nat.beq j j with|true=>.c (.val v)|false=>.own j))=_
   rw[Nat.beq_refl]
  rw[this]
  exact ah
end
section
variable {C:Ctx} {n:Nat} {tm:TM} {mm:MM} {o:Oper} {d:Nat} {x y:Operand}
theorem Km{Θ:da}(bt:a8 C.P Θ){t:TypeId}{z cz e:Nat}{ag:Bool}{zt:Option (List CT)}{ei:fN}{c0:CT}{kx ky:IntKind}{v v':Int}
 (ho:o.op=.makeSlice t x y)(ht:aP Θ t=some ⟨z,cz,ag,zt,.slice e⟩)(dO:aP Θ e=some ei)(hz:ei.zero=some [c0])(MZ:Nat.beq ei.size 1=true)
 (hx:aQ tm x=some (.c (.int kx v)))(hy:aQ tm y=some (.c (.int ky v')))(hi:getM mm d=none)(hd:o.dst=some d)(hn:Nat.blt d n=true)
 (m:Nat)(hv:v=(m:Int))(wY:v'=(m:Int))(gW:m≤9223372036854775807∧ei.bytes * m≤281474976710656):
 xX C n o tm mm ((d,.v (.one (.own d)))::bo tm d) ((d,.arr true e 1 (List.replicate m [c0]))::mm):=by
 intro a w ⟨H,Z,hm⟩
 subst hv wY
 have h1:a.eval x=.int kx m:=aV.cA (aU hm hx)
 have h2:a.eval y=.int ky m:=aV.cA (aU hm hy)
 obtain⟨inf,de,hf⟩:=gI bt ht
 obtain⟨jK,qw,fK⟩:=gI bt dO
 obtain⟨zv,wV,qe,BD⟩:=fK.zero [c0] hz
 obtain⟨q1,q2⟩:=e8 (w:=w) (M:=cO C H mm) qe
 have jL:de=.slice e:=by
  have:=hf.sh
  cases de<;>simp[dA]at this⊢
  exact this
 subst jL
 have MZ:ei.size=1:=aJ MZ
 have Qg:=run_make (P:=C.P) w t e jK zv hf.Aj fK.info wV kx ky m m (by omega) (by omega) (by rw[fK.bytes];omega) (by omega)
 rw[fK.size,MZ]at Qg
 have Bc:zv.cells.size=1:=by rw[q1];rfl
 obtain⟨u0,RL,M1⟩:=q2 0 c0 J
 have Fx:∀i,i < m→(madeCells zv.cells (m * 1))[i]? =some u0:=by
  intro i hi
  simp only[madeCells,Nat.mul_one]
  rw[Array.getElem?_map,Array.getElem?_range]
  rw[if_pos hi]
  simp only[dQ,Bc,Nat.mod_one]
  rw[getElem!_def,RL]
 have dL:(execOp a.eval o).run C.P w=.ok (.value (.slice (some ⟨w.heap.size,0,none⟩) m m)) (w.alloc (.cells (madeCells zv.cells (m * 1)) e)):=by
  simp only[execOp,ho,h1,h2,Sem.run_bind]
  simp[Qg,Sem.run_pure]
 have fy:∀(k:Nat) (q:List CT),(List.replicate m [c0])[k]? =some q→k < m∧q=[c0]:=fun k q hk=>by
  rw[iy]at hk
  split at hk
  ·rename_i h;injection hk with hk;exact⟨h,hk.symm⟩
  ·cases hk
 refine .inl ⟨_,_,dL,jV H d (.slice (some ⟨w.heap.size,0,none⟩) m m),jV Z d 1,?_⟩
 rw[hd]
 refine hm.add (i:=d) (hv:=.slice (some ⟨w.heap.size,0,none⟩) m m) (z:=1) (o:=.arr true e 1 (List.replicate m [c0])) (getM_none hi) (a6.mp hn) J (ft w _) ?_ ?_ ?_
 ·intro b hb
  simp[Hb,hblk]at hb
  subst hb
  exact⟨ay _,by show _ < (w.heap.push _).size;rw[jl];omega⟩
 ·intro iP gb
  refine⟨bm _ _ _,(madeCells zv.cells (m * 1)).toList,?_,by rw[bm];simp,fun q hq=>by rw[List.mem_replicate]at hq;rw[hq.2];rfl,fun k x hk j c hc=>?_⟩
  ·rw[bm,List.length_replicate]
   exact World.ownsRow_lit w _ m (aF _) (by simp only[maxLen];omega) (by simp[madeCells])
  ·obtain⟨g1,rfl⟩:=fy k x hk
   cases j with
   |succ j=>simp at hc
   |zero=>
    simp at hc;subst hc
    exact⟨u0,by rw[Nat.mul_one,qA,ej];simpa using Fx k g1,M1.mono (ft w _).size gb iP⟩
 ·exact⟨⟨_,ah,rfl⟩,(bm _ _ _).symm⟩
end
section
variable {C:Ctx} {n:Nat} {tm:TM} {mm:MM} {L l:List Oper} {T:TM→MM→Prop} {o:Oper} {d:Nat} {x y:Operand}
theorem Nu{Θ:da}(bt:a8 C.P Θ){t:TypeId}{z cz e:Nat}{ag:Bool}{zt:Option (List CT)}{ei:fN}{c0:CT}{kx ky:IntKind}{v v':Int}
 (ho:o.op=.makeSlice t x y)(ht:aP Θ t=some ⟨z,cz,ag,zt,.slice e⟩)(dO:aP Θ e=some ei)(hz:ei.zero=some [c0])(MZ:Nat.beq ei.size 1=true)
 (hx:aQ tm x=some (.c (.int kx v)))(hy:aQ tm y=some (.c (.int ky v')))(hi:getM mm d=none)(hd:o.dst=some d)(hn:Nat.blt d n=true)(hg:aY L tm o=some true)
 (m:Nat)(hv:v=(m:Int))(wY:v'=(m:Int))(gW:m≤9223372036854775807∧ei.bytes * m≤281474976710656)
 (k:SOps C n L.toArray l ((d,.v (.one (.own d)))::bo tm d) ((d,.arr true e 1 (List.replicate m [c0]))::mm) T):SOps C n L.toArray (o::l) tm mm T:=
 cB (Km bt ho ht dO hz MZ hx hy hi hd hn m hv wY gW).wp hg k
end
section
variable {C:Ctx} {n:Nat} {tm:TM} {mm:MM} {f:FuncId} {R:Ending→World→Prop} {k:List Item}
theorem Has.O7{a:Act}{w:World}(i t:Nat){e sz:Nat}{v:Value}{xs:List (List CT)}(hi:getM mm i=some (.bF e sz [(v,xs)]))(iJ:Nat.blt i given=true)(ht:jD tm t=some (.v (.one (.c (.val v)))))
 (gA:eD i mm=true)(qX:gn i tm=true)(h:Has C n tm mm a w):Has C n ((t,.v (.one (.c (.slice false sz xs))))::bo tm t) (fO [i] mm) a w:=by
 obtain⟨H,Z,hm⟩:=h
 obtain⟨hH,c6⟩:=hm.mem _ (aT hi)
 have hH:H i=gg [(v,xs)]:=hH
 have c6:eF w (cO C H mm) e sz [(v,xs)]:=c6
 have fY:∀p∈fO [i] mm,p∈mm∧p.1≠i:=fun p hp=>by
  obtain⟨g1,g2⟩:=eR.1 hp
  exact⟨g1,by simpa using g2⟩
 have Bg:∀q,q≠i→cU mm q→cU (fO [i] mm) q:=fun q hq ⟨p,hp,e⟩=>⟨p,eR.2 ⟨hp,by simpa[e]using hq⟩,e⟩
 have hM:∀b,b < w.heap.size→cO C H (fO [i] mm) b→cO C H mm b:=by
  rintro b _ (hb|⟨p,hp,c9⟩)
  ·exact .inl hb
  ·exact .inr ⟨p,(fY p hp).1,c9⟩
 have WT:∀b,hblk v=some b→¬cO C H (fO [i] mm) b:=by
  rintro b dS (hb|⟨p,hp,c9⟩)
  ·have hf:=hm.fresh _ (aT hi) b (by rw[show H (i,_).1=_ from hH];exact dD.2 ⟨_,ah,dS⟩)
   have:=hm.m0 b hb
   have:=a6.mp iJ
   rcases hf.1 with⟨_,h2|h2⟩|⟨h1,_⟩
   ·omega
   ·exact(C.hV b h2).2 hb
   ·simp only at h1;omega
  ·exact hm.sep p (fY p hp).1 _ (aT hi) (fY p hp).2 b c9 (by rw[show H (i,_).1=_ from hH];exact dD.2 ⟨_,ah,dS⟩)
 have cC:aV w (cO C H (fO [i] mm)) v (.slice false sz xs):=(c6.row (k:=0) J).frozen hM WT
 refine⟨H,Z,hm.defers,hm.size,hm.Oa,fun p hp=>hm.hg p (fY p hp).1,hm.ext,hm.m0,fun p hp q hq=>hm.ids p (fY p hp).1 q (fY q hq).1,fun p hp=>?_,
  fun p hp=>hm.fresh p (fY p hp).1,fun p hp q hq=>hm.sep p (fY p hp).1 q (fY q hq).1,fun p hp=>?_⟩
 ·have k1:=(fY p hp).1
  exact(hm.mem p k1).mono ⟨rfl,rfl⟩ (fun _ _=>rfl) (fun q hq Bf=>⟨Bg q (fun e=>fD gA k1 (e▸hq)) Bf,rfl,rfl⟩) (ay _) (fun _ _ _=>rfl) hM
 ·rcases ae.1 hp with rfl|hp
  ·have hv:a.tmps.getD t undef=v:=aV.gH (hm.tmps _ (gX ht))
   show aV w _ (a.tmps.getD t undef) _
   rw[hv]
   exact cC
  ·have hp:=(cj hp).1
   exact(hm.tmps p hp).mono (fun q hq Bf=>⟨Bg q (fun e=>gi qX p hp (e▸hq)) Bf,rfl,rfl⟩) (ay _) (fun _ _ _=>rfl) hM
theorem pW(i t:Nat){e sz:Nat}{v:Value}{xs:List (List CT)}(hi:getM mm i=some (.bF e sz [(v,xs)]))(iJ:Nat.blt i given=true)(ht:jD tm t=some (.v (.one (.c (.val v)))))
 (gA:eD i mm=true)(qX:gn i tm=true)(g:Goes C f n R k ((t,.v (.one (.c (.slice false sz xs))))::bo tm t) (fO [i] mm)):Goes C f n R k tm mm:=g.mono fun _ _ h=>h.O7 i t hi iJ ht gA qX
end
end Go.Sy
namespace Go.Sy
open Go.RowKit
section
variable {I I':Nat→Prop} {H H':Nat→Value} {Z Z':Nat→Nat} {w w':World} {M M':Nat→Prop} {v:Value}
end
section
variable {C:Ctx} {n:Nat} {tm:TM} {mm:MM} {H:Nat→Value} {Z:Nat→Nat} {a:Act} {w:World}
end
section
variable {C:Ctx} {n:Nat} {tm:TM} {mm:MM} {o:Oper} {d:Nat} {L l:List Oper} {T:TM→MM→Prop}
end
section
variable {C:Ctx} {n:Nat} {tm:TM} {mm:MM} {f:FuncId} {R:Ending→World→Prop} {k:List Item}
theorem Has.Wc{a:Act}{w:World}(i j t:Nat){e sz:Nat}{v:Value}{xs:List (List CT)}(hi:getM mm i=some (.bF e sz [(v,xs)]))(iJ:Nat.blt i given=true)(ht:jD tm t=some (.v (.one (.c (.val v)))))
 (Ed:Nat.blt j given=true)(OK:jj mm j=false)(gA:eD i mm=true)(qX:gn i tm=true)(h:Has C n tm mm a w):Has C n ((t,.v (.one (.own j)))::bo tm t) ((j,.arr false e sz xs)::fO [i] mm) a w:=by
 obtain⟨H,Z,hm⟩:=h
 obtain⟨hH,c6⟩:=hm.mem _ (aT hi)
 have hH:H i=gg [(v,xs)]:=hH
 have c6:eF w (cO C H mm) e sz [(v,xs)]:=c6
 obtain⟨us,h1,h3,h4⟩:=c6.row (k:=0) J
 have lz:=fF OK
 have Ye:j≠i:=fun e=>lz (e▸⟨_,aT hi,rfl⟩)
 have fY:∀p∈fO [i] mm,p∈mm∧p.1≠i∧p.1≠j:=fun p hp=>by
  obtain⟨g1,g2⟩:=eR.1 hp
  exact⟨g1,by simpa using g2,fun e=>lz ⟨p,g1,e⟩⟩
 have Ee:∀q,q≠j→Sy.jV H j v q=H q:=fun q hq=>bG _ _ hq
 have Xu:∀q,q≠j→Sy.jV Z j sz q=Z q:=fun q hq=>bG _ _ hq
 have La:∀b,Hb v b→Hb (H i) b:=fun b hb=>by
  rw[hH];exact dD.2 ⟨_,ah,by rw[mU h1];exact(tQ h1 b).1 hb⟩
 have Bg:∀q,q≠i→cU mm q→cU ((j,.arr false e sz xs)::fO [i] mm) q:=fun q hq ⟨p,hp,e⟩=>⟨p,ab _ (eR.2 ⟨hp,by simpa[e]using hq⟩),e⟩
 refine⟨Sy.jV H j v,Sy.jV Z j sz,hm.build (fun _=>False) (Ext.refl _ w) (fun _ _ h=>h.elim) hm.defers hm.size ?_ ?_ ?_ ?_ ?_⟩
 ·intro p hp lN
  rcases ae.1 hp with rfl|hp
  ·have:=a6.mp Ed;simp only at lN;omega
  ·rw[Ee _ (fY p hp).2.2];exact hm.hg p (fY p hp).1 lN
 ·intro p hp q hq he
  rcases ae.1 hp with rfl|hp<;>rcases ae.1 hq with rfl|hq
  ·rfl
  ·exact absurd he.symm (fY q hq).2.2
  ·exact absurd he (fY p hp).2.2
  ·exact hm.ids p (fY p hp).1 q (fY q hq).1 he
 ·intro p hp
  rcases ae.1 hp with rfl|hp
  ·refine .inr ⟨fun b hb=>?_,fun iP _=>?_⟩
   ·rw[bm]at hb
    exact .inr ⟨_,aT hi,La b hb,.inr ⟨a6.mp iJ,a6.mp Ed⟩⟩
   ·refine⟨bm _ _ _,us,by rw[bm];exact h1,fun h=>(by cases h),h3,fun k x hx m c hc=>?_⟩
    obtain⟨u,hu,hr⟩:=h4 k x hx m c hc
    exact⟨u,hu,hr.mono (ay _) (fun _ _ _=>rfl) iP⟩
  ·obtain⟨k1,k2,k3⟩:=fY p hp
   exact .inl ⟨k1,Ee _ k3,Xu _ k3,fun _ _ h=>h,fun q hq Bf=>⟨Bg q (fun e=>fD gA k1 (e▸hq)) Bf,Ee q (fun e=>lz (e▸Bf)),Xu q (fun e=>lz (e▸Bf))⟩⟩
 ·intro p hp q hq kl b c9 dS
  rcases ae.1 hp with rfl|hp<;>rcases ae.1 hq with rfl|hq
  ·exact kl J
  ·rw[bm]at c9
   rw[Ee _ (fY q hq).2.2]at dS
   exact hm.sep _ (aT hi) q (fY q hq).1 (Ne.symm (fY q hq).2.1) b (La b c9) dS
  ·rw[bm]at dS
   rw[Ee _ (fY p hp).2.2]at c9
   exact hm.sep p (fY p hp).1 _ (aT hi) (fY p hp).2.1 b c9 (La b dS)
  ·rw[Ee _ (fY p hp).2.2]at c9
   rw[Ee _ (fY q hq).2.2]at dS
   exact hm.sep p (fY p hp).1 q (fY q hq).1 kl b c9 dS
 ·intro p hp
  rcases ae.1 hp with rfl|hp
  ·refine .inr fun _ _=>?_
   have hv:a.tmps.getD t undef=v:=aV.gH (hm.tmps _ (gX ht))
   exact⟨⟨_,ah,rfl⟩,by show a.tmps.getD t undef=_;rw[hv,bm]⟩
  ·have hp:=(cj hp).1
   exact .inl ⟨p,hp,rfl,rfl,fun q hq Bf=>⟨Bg q (fun e=>gi qX p hp (e▸hq)) Bf,Ee q (fun e=>lz (e▸Bf)),Xu q (fun e=>lz (e▸Bf))⟩⟩
end
section
variable {C:Ctx} {n:Nat} {tm:TM} {mm:MM} {f:FuncId} {R:Ending→World→Prop} {k:List Item}
end
section
variable {C:Ctx} {n:Nat} {L:List Oper} {tm:TM}
end
section
variable {C:Ctx} {n:Nat} {tm:TM} {mm:MM} {L l:List Oper} {T:TM→MM→Prop} {o:Oper} {d:Nat} {x:Operand}
end
theorem er.args{P:Program}{f:FuncId}{pre post:List (List CT)}{args args':List SV}{res:ST}(h:er P f pre args res post)(hl:D3 args' args):er P f pre args' res post:=
 ⟨h.ok,fun w M0 H Z vs hp hv=>h.calls w M0 H Z vs hp (hl.rep hv)⟩
theorem I6.args{P:Program}{f:FuncId}{pre post:List (List CT)}{args args':List SV}{Q:ST→Prop}(h:I6 P f pre args Q post)(hl:D3 args' args):I6 P f pre args' Q post:=
 ⟨h.ok,fun w M0 H Z vs hp hv=>h.calls w M0 H Z vs hp (hl.rep hv)⟩
end Go.Sy
namespace Go.Sy
open Go.RowKit
def cQ:List (Nat×Nat)→Nat→Nat
 |[],i=>i
 |(a,b)::r,i=>match Nat.beq a i with
  |true=>b
  |false=>cQ r i
def NG(ren:List (Nat×Nat)):List Nat→List Nat
 |[]=>[]
 |i::l=>cQ ren i::NG ren l
def Ey(ren:List (Nat×Nat)):SC→SC
 |.c x=>.c x
 |.lit b=>.lit b
 |.ptr i o=>.ptr (cQ ren i) o
 |.iH i k o=>.iH (cQ ren i) k o
 |.iw cs=>.iw cs
 |.own i=>.own (cQ ren i)
 |.mp i=>.mp (cQ ren i)
 |.u5 i n=>.u5 (cQ ren i) n
 |.kD f l=>.kD f (NG ren l)
 |.any=>.any
def Au(ren:List (Nat×Nat)):List SC→List SC
 |[]=>[]
 |a::l=>Ey ren a::Au ren l
def MW(ren:List (Nat×Nat)):SV→SV
 |.one s=>.one (Ey ren s)
 |.agg l=>.agg (Au ren l)
def ye(ren:List (Nat×Nat)):List SV→List SV
 |[]=>[]
 |a::l=>MW ren a::ye ren l
def NC(ren:List (Nat×Nat)):ST→ST
 |.v s=>.v (MW ren s)
 |.fo l=>.fo (ye ren l)
def BB(ren:List (Nat×Nat)):MO→MO
 |.box cs=>.box (Au ren cs)
 |.arr nn e sz xs=>.arr nn e sz xs
 |.fw es=>.fw es
 |.bF e sz qs=>.bF e sz qs
def Vv(ren:List (Nat×Nat)):MM→MM
 |[]=>[]
 |(i,o)::r=>(cQ ren i,BB ren o)::Vv ren r
theorem vg(ren:List (Nat×Nat)):∀l,NG ren l=l.map (cQ ren)
 |[]=>rfl
 |i::l=>by rw[NG,vg ren l];rfl
theorem nD(ren:List (Nat×Nat)):∀l,Au ren l=l.map (Ey ren)
 |[]=>rfl
 |i::l=>by rw[Au,nD ren l];rfl
theorem rO(ren:List (Nat×Nat)):∀l,ye ren l=l.map (MW ren)
 |[]=>rfl
 |i::l=>by rw[ye,rO ren l];rfl
theorem Ex(ren:List (Nat×Nat)):∀l:MM,Vv ren l=l.map fun p=>(cQ ren p.1,BB ren p.2)
 |[]=>rfl
 |(i,o)::l=>by rw[Vv,Ex ren l];rfl
def T4:SC→Bool
 |.iH _ _ _=>false
 |_=>true
def Ki:List SC→Bool
 |[]=>true
 |a::l=>match T4 a with
  |true=>Ki l
  |false=>false
def T3:SV→Bool
 |.one s=>T4 s
 |.agg l=>Ki l
def AB:List SV→Bool
 |[]=>true
 |a::l=>match T3 a with
  |true=>AB l
  |false=>false
def Rb:ST→Bool
 |.v s=>T3 s
 |.fo l=>AB l
def Vx:MO→Bool
 |.box cs=>Ki cs
 |.arr _ _ _ _=>false
 |_=>true
def Ti:MM→Bool
 |[]=>true
 |(_,o)::r=>match Vx o with
  |true=>Ti r
  |false=>false
theorem mJ:∀{l:List SC},Ki l=true→∀s∈l,T4 s=true
 |[],_,s,h=>by cases h
 |a::l,h,s,hs=>by
  unfold Ki at h
  split at h
  ·rename_i ha
   rcases ae.1 hs with rfl|hs
   ·exact ha
   ·exact mJ h s hs
  ·cases h
theorem s3:∀{l:List SV},AB l=true→∀s∈l,T3 s=true
 |[],_,s,h=>by cases h
 |a::l,h,s,hs=>by
  unfold AB at h
  split at h
  ·rename_i ha
   rcases ae.1 hs with rfl|hs
   ·exact ha
   ·exact s3 h s hs
  ·cases h
theorem rR:∀{l:MM},Ti l=true→∀p∈l,Vx p.2=true
 |[],_,p,h=>by cases h
 |(i,o)::l,h,p,hp=>by
  unfold Ti at h
  split at h
  ·rename_i ha
   rcases ae.1 hp with rfl|hp
   ·exact ha
   ·exact rR h p hp
  ·cases h
section
variable {ren:List (Nat×Nat)} {I I':Nat→Prop} {H H':Nat→Value} {Z Z':Nat→Nat} {w:World} {M M':Nat→Prop} {v:Value}
theorem vO{s:SC}(hp:T4 s=true)(h:bS I H Z w M v s)(hI:∀i∈s.bw,I i→I' (cQ ren i)∧H' (cQ ren i)=H i)
 (hM:∀b,b < w.heap.size→M' b→M b):bS I' H' Z' w M' v (Ey ren s):=by
 cases s with
 |c x=>exact aV.mono h (ay _) (fun _ _ _=>rfl) hM
 |lit b=>exact h
 |ptr i off=>
  obtain⟨h1,b,h2,h3⟩:=h
  obtain⟨k1,k2⟩:=hI i (by simp[SC.bw]) h1
  exact⟨k1,b,by rw[k2];exact h2,h3⟩
 |u5 i n=>
  obtain⟨h1,b,h2,h3⟩:=h
  obtain⟨k1,k2⟩:=hI i (by simp[SC.bw]) h1
  exact⟨k1,b,by rw[k2];exact h2,h3⟩
 |iH i k off=>cases hp
 |iw cs=>
  obtain⟨ad,h1,h2,h3,h4,h5⟩:=h
  refine⟨ad,h1,h2,h3,fun hm=>h4 (hM _ h3 hm),fun j c hc=>?_⟩
  obtain⟨u,hu,hr⟩:=h5 j c hc
  exact⟨u,hu,hr.mono (ay _) (fun _ _ _=>rfl) hM⟩
 |own i=>
  obtain⟨h1,h2⟩:=h
  obtain⟨k1,k2⟩:=hI i (by simp[SC.bw]) h1
  exact⟨k1,by rw[k2];exact h2⟩
 |mp i=>
  obtain⟨h1,h2⟩:=h
  obtain⟨k1,k2⟩:=hI i (by simp[SC.bw]) h1
  exact⟨k1,by rw[k2];exact h2⟩
 |kD f c7=>
  obtain⟨h1,vs,h2,h3,h4⟩:=h
  have hr:Ey ren (.kD f c7)=.kD f (c7.map (cQ ren)):=by rw[Ey,vg]
  rw[hr]
  refine⟨fun i hi=>?_,vs,h2,by rw[ak];exact h3,fun j i hj=>?_⟩
  ·obtain⟨k,hk,rfl⟩:=aL.1 hi
   exact(hI k hk (h1 k hk)).1
  ·rw[az]at hj
   cases hq:c7[j]? with
   |none=>rw[hq]at hj;cases hj
   |some k=>
    rw[hq]at hj;injection hj with hj;subst hj
    have hm:k∈c7:=aj hq
    rw[(hI k hm (h1 k hm)).2]
    exact h4 j k hq
 |any=>trivial
theorem qN{s:SC}(hp:T4 s=true)(h:bS I H Z w M v (Ey ren s))(hI:∀i∈s.bw,I' i)
 (hM:∀b,b < w.heap.size→M' b→M b):bS I' (fun i=>H (cQ ren i)) Z' w M' v s:=by
 cases s with
 |c x=>exact aV.mono h (ay _) (fun _ _ _=>rfl) hM
 |lit b=>exact h
 |ptr i off=>
  obtain⟨h1,b,h2,h3⟩:=h
  exact⟨hI i (by simp[SC.bw]),b,h2,h3⟩
 |u5 i n=>
  obtain⟨h1,b,h2,h3⟩:=h
  exact⟨hI i (by simp[SC.bw]),b,h2,h3⟩
 |iH i k off=>cases hp
 |iw cs=>
  obtain⟨ad,h1,h2,h3,h4,h5⟩:=h
  refine⟨ad,h1,h2,h3,fun hm=>h4 (hM _ h3 hm),fun j c hc=>?_⟩
  obtain⟨u,hu,hr⟩:=h5 j c hc
  exact⟨u,hu,hr.mono (ay _) (fun _ _ _=>rfl) hM⟩
 |own i=>
  obtain⟨h1,h2⟩:=h
  exact⟨hI i (by simp[SC.bw]),h2⟩
 |mp i=>
  obtain⟨h1,h2⟩:=h
  exact⟨hI i (by simp[SC.bw]),h2⟩
 |kD f c7=>
  have hr:Ey ren (.kD f c7)=.kD f (c7.map (cQ ren)):=by rw[Ey,vg]
  rw[hr]at h
  obtain⟨h1,vs,h2,h3,h4⟩:=h
  refine⟨fun i hi=>hI i hi,vs,h2,by rw[ak]at h3;exact h3,fun j i hj=>?_⟩
  exact h4 j (cQ ren i) (by rw[az,hj];rfl)
 |any=>trivial
theorem B5{s:SV}(hp:T3 s=true)(h:cu I H Z w M v s)(hI:∀i∈s.bw,I i→I' (cQ ren i)∧H' (cQ ren i)=H i)
 (hM:∀b,b < w.heap.size→M' b→M b):cu I' H' Z' w M' v (MW ren s):=by
 cases s with
 |one s=>exact vO (s:=s) hp h hI hM
 |agg l=>
  obtain⟨vs,h1,h2,h3⟩:=h
  show cu I' H' Z' w M' v (.agg (Au ren l))
  rw[nD]
  refine⟨vs,h1,by simpa using h2,fun j c hc=>?_⟩
  rw[az]at hc
  cases hq:l[j]? with
  |none=>rw[hq]at hc;cases hc
  |some k=>
   rw[hq]at hc;injection hc with hc;subst hc
   obtain⟨u,hu,hr⟩:=h3 j k hq
   exact⟨u,hu,vO (mJ hp k (aj hq)) hr (fun i hi=>hI i (by simp only[SV.bw,bu];exact⟨k,aj hq,hi⟩)) hM⟩
theorem EA{s:SV}(hp:T3 s=true)(h:cu I H Z w M v (MW ren s))(hI:∀i∈s.bw,I' i)
 (hM:∀b,b < w.heap.size→M' b→M b):cu I' (fun i=>H (cQ ren i)) Z' w M' v s:=by
 cases s with
 |one s=>exact qN (s:=s) hp h hI hM
 |agg l=>
  have h:cu I H Z w M v (.agg (Au ren l)):=h
  rw[nD]at h
  obtain⟨vs,h1,h2,h3⟩:=h
  refine⟨vs,h1,by simpa using h2,fun j c hc=>?_⟩
  obtain⟨u,hu,hr⟩:=h3 j (Ey ren c) (by rw[az,hc];rfl)
  exact⟨u,hu,qN (mJ hp c (aj hc)) hr (fun i hi=>hI i (by simp only[SV.bw,bu];exact⟨c,aj hc,hi⟩)) hM⟩
theorem B6{s:ST}(hp:Rb s=true)(h:eK I H Z w M v s)(hI:∀i∈s.bw,I i→I' (cQ ren i)∧H' (cQ ren i)=H i)
 (hM:∀b,b < w.heap.size→M' b→M b):eK I' H' Z' w M' v (NC ren s):=by
 cases s with
 |v s=>exact B5 (s:=s) hp h hI hM
 |fo l=>
  obtain⟨vs,h1,h2,h3⟩:=h
  show eK I' H' Z' w M' v (.fo (ye ren l))
  rw[rO]
  refine⟨vs,h1,by simpa using h2,fun j c hc=>?_⟩
  rw[az]at hc
  cases hq:l[j]? with
  |none=>rw[hq]at hc;cases hc
  |some k=>
   rw[hq]at hc;injection hc with hc;subst hc
   obtain⟨u,hu,hr⟩:=h3 j k hq
   exact⟨u,hu,B5 (s3 hp k (aj hq)) hr (fun i hi=>hI i (by simp only[ST.bw,bu];exact⟨k,aj hq,hi⟩)) hM⟩
theorem eF.mask{e sz:Nat}{qs:PQ}(h:eF w M e sz qs)(hM:∀b,b < w.heap.size→M' b→M b):eF w M' e sz qs:=
 ⟨fun k q hq=>fp.mono (v:=q.1) (xs:=q.2) (h.1 k q hq) (fun _ _=>rfl) (ay _) (fun _ _ _=>rfl) hM,h.2⟩
theorem CG{i:Nat}{o:MO}(hp:Vx o=true)(h:eG I H Z w M i o)(hh:H' (cQ ren i)=H i)(hI:∀j∈o.bw,I j→I' (cQ ren j)∧H' (cQ ren j)=H j)
 (hM:∀b,b < w.heap.size→M' b→M b):eG I' H' Z' w M' (cQ ren i) (BB ren o):=by
 cases o with
 |box cs=>
  obtain⟨b,ty,vs,h1,h2,h3,h4⟩:=h
  show eG I' H' Z' w M' (cQ ren i) (.box (Au ren cs))
  rw[nD]
  refine⟨b,ty,vs,by rw[hh];exact h1,h2,by simpa using h3,fun j c hc=>?_⟩
  rw[az]at hc
  cases hq:cs[j]? with
  |none=>rw[hq]at hc;cases hc
  |some k=>
   rw[hq]at hc;injection hc with hc;subst hc
   obtain⟨u,hu,ho,hr⟩:=h4 j k hq
   exact⟨u,hu,ho,vO (mJ hp k (aj hq)) hr (fun i hi=>hI i (by simp only[MO.bw,bu];exact⟨k,aj hq,hi⟩)) hM⟩
 |arr nn e sz xs=>cases hp
 |fw es=>
  obtain⟨r,Dw,ck,h1,h2,h3,h4⟩:=h
  refine⟨r,Dw,ck,by rw[hh];exact h1,h2,h3,fun j p hp=>?_⟩
  obtain⟨en,he,hk,hv⟩:=h4 j p hp
  exact⟨en,he,hk.mono (ay _) (fun _ _ _=>rfl) hM,hv.mono (ay _) (fun _ _ _=>rfl) hM⟩
 |bF e sz qs=>
  obtain⟨h1,h2⟩:=h
  exact⟨by rw[hh];exact h1,eF.mask h2 hM⟩
theorem EZ{i:Nat}{o:MO}(hp:Vx o=true)(h:eG I H Z w M (cQ ren i) (BB ren o))(hI:∀j∈o.bw,I' j)
 (hM:∀b,b < w.heap.size→M' b→M b):eG I' (fun i=>H (cQ ren i)) Z' w M' i o:=by
 cases o with
 |box cs=>
  have h:eG I H Z w M (cQ ren i) (.box (Au ren cs)):=h
  rw[nD]at h
  obtain⟨b,ty,vs,h1,h2,h3,h4⟩:=h
  refine⟨b,ty,vs,h1,h2,by simpa using h3,fun j c hc=>?_⟩
  obtain⟨u,hu,ho,hr⟩:=h4 j (Ey ren c) (by rw[az,hc];rfl)
  exact⟨u,hu,ho,qN (mJ hp c (aj hc)) hr (fun i hi=>hI i (by simp only[MO.bw,bu];exact⟨c,aj hc,hi⟩)) hM⟩
 |arr nn e sz xs=>cases hp
 |fw es=>
  obtain⟨r,Dw,ck,h1,h2,h3,h4⟩:=h
  refine⟨r,Dw,ck,h1,h2,h3,fun j p hp=>?_⟩
  obtain⟨en,he,hk,hv⟩:=h4 j p hp
  exact⟨en,he,hk.mono (ay _) (fun _ _ _=>rfl) hM,hv.mono (ay _) (fun _ _ _=>rfl) hM⟩
 |bF e sz qs=>
  obtain⟨h1,h2⟩:=h
  exact⟨h1,eF.mask h2 hM⟩
end
structure Vp(w:World)(M0:Nat→Prop)(H:Nat→Value)(Z:Nat→Nat)(mm:MM):Prop where
 m0:∀b,M0 b→b < w.heap.size
 YE:∀b,bT H mm b→¬M0 b
 mem:∀p∈mm,eG (cU mm) H Z w (fun b=>M0 b∨bT H mm b) p.1 p.2
 lt:∀p∈mm,∀b,Hb (H p.1) b→b < w.heap.size
 sep:∀p∈mm,∀q∈mm,p.1≠q.1→∀b,Hb (H p.1) b→¬Hb (H q.1) b
structure Vq(w w':World)(M0:Nat→Prop)(H H':Nat→Value)(Z:Nat→Nat)(pre post:MM):Prop where
 hd:∀p∈post,given≤p.1→H' p.1=H p.1
 mem:∀p∈post,eG (cU post) H' Z w' (fun b=>M0 b∨bT H' post b) p.1 p.2
 lt:∀p∈post,∀b,Hb (H' p.1) b→b < w'.heap.size∧(w.heap.size≤b∨∃q∈pre,Hb (H q.1) b∧(p.1=q.1∨(q.1 < given∧p.1 < given)))
 sep:∀p∈post,∀q∈post,p.1≠q.1→∀b,Hb (H' p.1) b→¬Hb (H' q.1) b
def I5(H:Nat→Value)(Z:Nat→Nat)(pre:MM){ι:Type}(Q:ι→Prop)(res:ι→ST)(post:ι→MM)(w:World)(M0:Nat→Prop)(e:Ending)(w':World):Prop:=
 ∃x v H',Q x∧e=.returned v∧Ext (bT H pre) w w'∧Vq w w' M0 H H' Z pre (post x)∧
  eK (cU (post x)) H' Z w' (fun b=>M0 b∨bT H' (post x) b) v (res x)
structure nV(P:Program)(f:FuncId)(pre:MM)(args:List SV){ι:Type}(Q:ι→Prop)(res:ι→ST)(post:ι→MM):Prop where
 ok:lG P f
 calls:∀(w:World) (M0:Nat→Prop) (H:Nat→Value) (Z:Nat→Nat) (vs:List Value),Vp w M0 H Z pre→
  Pw (fun v s=>cu (cU pre) H Z w (fun b=>M0 b∨bT H pre b) v s) vs args→
  Calls P f vs.toArray w (I5 H Z pre Q res post w M0)
def rowsOf(H:Nat→Value)(pre:MM)(b:Nat):Prop:=∃p∈pre,p.1 < given∧Hb (H p.1) b
theorem py{H:Nat→Value}{pre:MM}{M0:Nat→Prop}(hd:∀b,bT H pre b→¬M0 b):∀b,rowsOf H pre b→bT H pre b∧¬M0 b:=
 fun b ⟨p,hp,_,hb⟩=>⟨⟨p,hp,hb⟩,hd b ⟨p,hp,hb⟩⟩
theorem jH{P:Program}{f:FuncId}{fn:Func}{c:Code}{pre:MM}{args:List SV}{ι:Type}{Q:ι→Prop}{res:ι→ST}{post:ι→MM}
 (hf:P.funcs[f]? =some fn)(hb:fn.body=some c)(hn:Nat.ble args.length fn.ntmps=true)(RV:Nat.ble fn.ntmps given=true)(Eb:(fn.name=="runtime.NumGoroutine")=false)
 (hu:vF pre=true)
 (h:∀(w:World) (M0:Nat→Prop) (H:Nat→Value) (Z:Nat→Nat) (hd:∀b,bT H pre b→¬M0 b),
   Goes ⟨P,w,M0,bT H pre,H,rowsOf H pre,py hd⟩ f fn.ntmps (I5 H Z pre Q res post w M0) [.code c] (u6 0 args) pre):
 nV P f pre args Q res post:=by
 refine⟨my hf hb Eb,?_⟩
 intro w M0 H Z vs dn cE cs
 have hlen:vs.length=args.length:=cE.1
 let a:Act:={tmps:=vs.toArray++Array.replicate (fn.ntmps - vs.toArray.size) undef,defers:=[]}
 have hn:=gw.mp hn
 have dh:Mod ⟨P,w,M0,bT H pre,H,rowsOf H pre,py dn.YE⟩ H Z fn.ntmps (u6 0 args) pre a w:=by
  refine⟨rfl,by simp[a];omega,gw.mp RV,fun _ _ _=>rfl,Ext.refl _ _,dn.m0,px hu,dn.mem,?_,dn.sep,?_⟩
  ·intro p hp b hb
   refine⟨?_,dn.lt p hp b hb⟩
   rcases bJ p.1 given with h1|h1
   ·exact .inl ⟨h1,.inr ⟨p,hp,h1,hb⟩⟩
   ·exact .inr ⟨h1,.inl ⟨p,hp,hb⟩⟩
  ·intro p hp
   obtain⟨j,s,rfl,hj⟩:=pj hp
   obtain⟨u,hu,hr⟩:=cE.2 j s hj
   have fg:j < vs.length:=(ai.1 hu).1
   have:a.tmps.getD (0+j) undef=u:=by
    have R2:vs[j]=u:=by
     have:=aa fg
     rw[hu]at this
     injection this with this;exact this.symm
    simp[a,db,nZ,fg,R2]
   rw[this]
   exact hr
 let b:Frame:={(default:Frame)with fn:=f,kind:=.normal}
 have q5:Frame.enter P f vs.toArray .normal=b.at a [.code c]:=by
  simp[Frame.enter,Frame.at,hf,hb,b,a]
 obtain⟨e,w',fr,h1,h2,h3,h4⟩:=h w M0 H Z dn.YE a w ⟨H,Z,dh⟩ b cs J J
 rw[q5]
 exact⟨e,w',fr,h1,h2,h3,h4⟩
def D6(mm:MM):MM→Prop
 |[]=>True
 |(i,o)::r=>getM mm i=some o∧D6 mm r
theorem D6.get{mm:MM}:∀{l:MM},D6 mm l→∀p∈l,getM mm p.1=some p.2
 |[],_,p,hp=>by cases hp
 |(i,o)::r,h,p,hp=>by
  rcases ae.1 hp with rfl|hp
  ·exact h.1
  ·exact D6.get h.2 p hp
def mc(pre:MM):MM→Bool
 |[]=>true
 |(i,_)::r=>match Nat.blt i given with
  |true=>mc pre r
  |false=>match jj pre i with
   |true=>mc pre r
   |false=>false
theorem ib{pre:MM}:∀{l:MM},mc pre l=true→∀p∈l,given≤p.1→cU pre p.1
 |[],_,p,hp=>by cases hp
 |(i,o)::r,h,p,hp=>by
  unfold mc at h
  intro hg
  split at h
  ·rename_i hb
   rcases ae.1 hp with rfl|hp
   ·exact absurd hg (Nat.not_le.2 (a6.mp hb))
   ·exact ib h p hp hg
  ·split at h
   ·rename_i hh
    rcases ae.1 hp with rfl|hp
    ·exact tp hh
    ·exact ib h p hp hg
   ·cases h
theorem Av(s:SC):Ey [] s=s:=by
 cases s with
 |kD f c7=>rw[Ey,vg,show cQ []=id from rfl,tU]
 |_=>rfl
theorem Gj(s:SV):MW [] s=s:=by
 cases s with
 |one s=>rw[MW,Av]
 |agg l=>rw[MW,nD,show Ey []=id from funext Av,tU]
theorem NB(s:ST):NC [] s=s:=by
 cases s with
 |v s=>rw[NC,Gj]
 |fo l=>rw[NC,rO,show MW []=id from funext Gj,tU]
theorem NF(o:MO):BB [] o=o:=by
 cases o with
 |box cs=>rw[BB,nD,show Ey []=id from funext Av,tU]
 |_=>rfl
theorem gq{P:Program}{w0:World}{M0:Nat→Prop}{f:FuncId}{n:Nat}{tm:TM}{mm pre:MM}{H:Nat→Value}{Z:Nat→Nat}{hd:∀b,bT H pre b→¬M0 b}{Θ:da}(bt:a8 P Θ)
 {ι:Type}{Q:ι→Prop}{res:ι→ST}{post:ι→MM}{fn:Func}(hf:P.funcs[f]? =some fn)(x:ι){rs:List SV}{t:List Item}(ht:t=[]∨∃k,t=.code .ret::k)
 (hr:uN Θ tm mm fn.results.toList=some rs)(he:dd rs=res x)(mA:Rb (res x)=true)(b6:P9 (post x) (res x)=true)(gf:D6 mm (post x))
 (VN:Ti (post x)=true)(Zh:yj (post x) (post x)=true)(Zz:mc pre (post x)=true)(hQ:Q x):
 Goes ⟨P,w0,M0,bT H pre,H,rowsOf H pre,py hd⟩ f n (I5 H Z pre Q res post w0 M0) t tm mm:=by
 intro a w ⟨H',Z',hm⟩ b fs hb hk
 obtain⟨v,h1,h2⟩:=lY bt hm hr
 have dX:∀p∈post x,p∈mm:=fun p hp=>aT (gf.get p hp)
 have hM:∀b,b < w.heap.size→(M0 b∨bT H' (post x) b)→cO ⟨P,w0,M0,bT H pre,H,rowsOf H pre,py hd⟩ H' mm b:=by
  rintro b _ (hb|⟨p,hp,c9⟩)
  ·exact .inl hb
  ·exact .inr ⟨p,dX p hp,c9⟩
 have hI:∀i,cU (post x) i→cU (post x) (cQ [] i)∧H' (cQ [] i)=H' i:=fun i hi=>⟨hi,rfl⟩
 have nM:I5 H Z pre Q res post w0 M0 (.returned v) w:=by
  refine⟨x,v,H',hQ,rfl,hm.ext,⟨fun p hp hg=>hm.hg p (dX p hp) hg,fun p hp=>?_,fun p hp b hb=>?_,fun p hp q hq=>hm.sep p (dX p hp) q (dX q hq)⟩,?_⟩
  ·have:=CG (ren:=[]) (H':=H') (Z':=Z) (I':=cU (post x)) (rR VN p hp) (hm.mem p (dX p hp)) J (fun j hj _=>⟨jx Zh p hp j hj,rfl⟩) hM
   rw[NF]at this
   exact this
  ·obtain⟨h3,h4⟩:=hm.fresh p (dX p hp) b hb
   refine⟨h4,?_⟩
   rcases h3 with⟨h5,h6|⟨q,hq,Qh,dS⟩⟩|⟨h5,h6|h6⟩
   ·exact .inl h6
   ·exact .inr ⟨q,hq,dS,.inr ⟨Qh,h5⟩⟩
   ·obtain⟨q,hq,A5⟩:=ib Zz p hp h5
    refine .inr ⟨q,hq,?_,.inl A5.symm⟩
    rw[A5]
    have:=hm.hg p (dX p hp) h5
    simp only at this
    rw[←this];exact hb
   ·exact .inl h6
  ·have:=B6 (ren:=[]) (H':=H') (Z':=Z) (I':=cU (post x)) mA (he▸h2) (fun j hj _=>⟨Ct b6 j hj,rfl⟩) hM
   rw[NB]at this
   exact this
 rcases ht with rfl|⟨k,rfl⟩
 ·exact⟨.returned v,w,_,nM,Steps.one step_end,hb,rfl,hm.defers,hk,fn,hb▸hf,h1⟩
 ·exact⟨.returned v,w,_,nM,Steps.one step_ret,hb,rfl,hm.defers,hk,fn,hb▸hf,h1⟩
def sy(mm:MM)(ren:List (Nat×Nat)):MM→Prop
 |[]=>True
 |(i,o)::r=>getM mm (cQ ren i)=some (BB ren o)∧sy mm ren r
theorem sy.get{mm:MM}{ren:List (Nat×Nat)}:∀{l:MM},sy mm ren l→∀p∈l,getM mm (cQ ren p.1)=some (BB ren p.2)
 |[],_,p,hp=>by cases hp
 |(i,o)::r,h,p,hp=>by
  rcases ae.1 hp with rfl|hp
  ·exact h.1
  ·exact sy.get h.2 p hp
def Fa(ren:List (Nat×Nat)):MM→List Nat
 |[]=>[]
 |(i,_)::r=>cQ ren i::Fa ren r
theorem oR{ren:List (Nat×Nat)}:∀{l:MM} {j:Nat},j∈Fa ren l↔∃p∈l,cQ ren p.1=j
 |[],j=>by simp[Fa]
 |(i,o)::r,j=>by
  rw[Fa,ae,oR (l:=r)]
  simp[eq_comm]
def sT(ren:List (Nat×Nat)):MM→Bool
 |[]=>true
 |(i,_)::r=>match Nat.blt i given with
  |true=>match Nat.blt (cQ ren i) given with
   |true=>sT ren r
   |false=>false
  |false=>sT ren r
theorem iU{ren:List (Nat×Nat)}:∀{l:MM},sT ren l=true→∀p∈l,p.1 < given→cQ ren p.1 < given
 |[],_,p,hp=>by cases hp
 |(i,o)::r,h,p,hp=>by
  unfold sT at h
  intro hg
  split at h
  ·split at h
   ·rename_i hb
    rcases ae.1 hp with rfl|hp
    ·exact a6.mp hb
    ·exact iU h p hp hg
   ·cases h
  ·rename_i hb
   rcases ae.1 hp with rfl|hp
   ·have:=a6.mpr hg
    rw[this]at hb;cases hb
   ·exact iU h p hp hg
def keptIn(post:MM):MM→Bool
 |[]=>true
 |(i,_)::r=>match Nat.blt i given with
  |true=>keptIn post r
  |false=>match jj post i with
   |true=>keptIn post r
   |false=>false
theorem te(post:MM):∀l:MM,keptIn post l=mc post l
 |[]=>rfl
 |(i,o)::r=>by unfold keptIn mc;rw[te post r]
def B3(ren:List (Nat×Nat))(mm:MM):MM→Bool
 |[]=>true
 |(i,_)::r=>match Nat.blt i given with
  |false=>B3 ren mm r
  |true=>match eD (cQ ren i) mm with
   |true=>B3 ren mm r
   |false=>false
theorem qK{ren:List (Nat×Nat)}{mm:MM}:∀{l:MM},B3 ren mm l=true→∀p∈l,p.1 < given→∀t∈mm,cQ ren p.1∉t.2.bw
 |[],_,p,hp=>by cases hp
 |(i,o)::r,h,p,hp=>by
  unfold B3 at h
  intro hg
  split at h
  ·rename_i hb
   rcases ae.1 hp with rfl|hp
   ·have:=a6.mpr hg
    rw[this]at hb;cases hb
   ·exact qK h p hp hg
  ·split at h
   ·rename_i hb
    rcases ae.1 hp with rfl|hp
    ·exact fun t ht=>fD hb ht
    ·exact qK h p hp hg
   ·cases h
def sl(ren:List (Nat×Nat)):MM→TM→TM
 |[],tm=>tm
 |(i,_)::r,tm=>match Nat.blt i given with
  |true=>sl ren r (jF (cQ ren i) tm)
  |false=>sl ren r tm
theorem tD{ren:List (Nat×Nat)}{t:Nat×ST}:∀{l:MM} {tm:TM},t∈sl ren l tm→t∈tm∧∀p∈l,p.1 < given→cQ ren p.1∉t.2.bw
 |[],_,h=>⟨h,fun p hp=>by cases hp⟩
 |(i,o)::r,tm,h=>by
  unfold sl at h
  split at h
  ·obtain⟨h1,h2⟩:=tD h
   obtain⟨h3,h4⟩:=ja h1
   refine⟨h3,fun p hp hg=>?_⟩
   rcases ae.1 hp with rfl|hp
   ·exact h4
   ·exact h2 p hp hg
  ·rename_i hb
   obtain⟨h1,h2⟩:=tD h
   refine⟨h1,fun p hp hg=>?_⟩
   rcases ae.1 hp with rfl|hp
   ·have:=a6.mpr hg
    rw[this]at hb;cases hb
   ·exact h2 p hp hg
def oO(ren:List (Nat×Nat)):MM→Nat→Option Nat
 |[],_=>none
 |(i,_)::r,j=>if cQ ren i=j then some i else oO ren r j
theorem wO{ren:List (Nat×Nat)}{j i:Nat}:∀{l:MM},oO ren l j=some i→∃p∈l,p.1=i∧cQ ren i=j
 |[],h=>by cases h
 |(k,o)::r,h=>by
  unfold oO at h
  split at h
  ·rename_i hk
   injection h with h;subst h
   exact⟨_,ah,rfl,hk⟩
  ·obtain⟨p,hp,e⟩:=wO h
   exact⟨p,ab _ hp,e⟩
theorem wP{ren:List (Nat×Nat)}{j:Nat}:∀{l:MM},(∀p∈l,cQ ren p.1≠j)→oO ren l j=none
 |[],_=>rfl
 |(k,o)::r,h=>by
  unfold oO
  rw[if_neg (h (k,o) ah)]
  exact wP fun p hp=>h p (ab _ hp)
theorem Ic{ren:List (Nat×Nat)}{l:MM}(hi:∀p∈l,∀q∈l,cQ ren p.1=cQ ren q.1→p.1=q.1){p:Nat×MO}(hp:p∈l):oO ren l (cQ ren p.1)=some p.1:=by
 cases h:oO ren l (cQ ren p.1)with
 |some i=>
  obtain⟨q,hq,e1,e2⟩:=wO h
  subst e1
  rw[hi q hq p hp e2]
 |none=>
  exfalso
  have:∀{l:MM},oO ren l (cQ ren p.1)=none→p∉l:=by
   intro l
   induction l with
   |nil=>intro _;simp
   |cons q l ih=>
    intro h hm
    unfold oO at h
    split at h
    ·cases h
    ·rename_i cV
     rcases ae.1 hm with rfl|hm
     ·exact cV J
     ·exact ih h hm
  exact this h hp
theorem yF:∀{A B:MM},vF (A++B)=true→∀p∈A,∀q∈B,p.1≠q.1
 |[],_,_,p,hp,_,_=>by cases hp
 |(i,o)::A,B,h,p,hp,q,hq=>by
  rw[cH]at h
  unfold vF at h
  split at h
  ·cases h
  ·rename_i hh
   rcases ae.1 hp with rfl|hp
   ·exact fun e=>fF hh ⟨q,bQ _ hq,e.symm⟩
   ·exact yF h p hp q hq
section
variable {C:Ctx} {n:Nat} {tm:TM} {mm:MM} {o:Oper} {d:Nat} {L l:List Oper} {T:TM→MM→Prop}
def xS(ren:List (Nat×Nat))(mm pre post:MM):MM:=Vv ren post++fO (Fa ren pre) mm
def K5(ren:List (Nat×Nat)):MM→Bool
 |[]=>true
 |(i,_)::r=>match eV (Fa ren r) (cQ ren i)with
  |true=>false
  |false=>K5 ren r
theorem tj{ren:List (Nat×Nat)}:∀{l:MM},K5 ren l=true→∀p∈l,∀q∈l,cQ ren p.1=cQ ren q.1→p=q
 |[],_,p,hp=>by cases hp
 |(i,o)::r,h,p,hp=>by
  intro q hq he
  unfold K5 at h
  split at h
  ·cases h
  ·rename_i hm
   have BH:∀s∈r,cQ ren s.1≠cQ ren i:=fun s hs e=>by
    have:cQ ren i∈Fa ren r:=oR.2 ⟨s,hs,e⟩
    rw[cD.2 this]at hm;cases hm
   rcases ae.1 hp with rfl|hp<;>rcases ae.1 hq with rfl|hq
   ·rfl
   ·exact absurd he.symm (BH q hq)
   ·exact absurd he (BH p hp)
   ·exact tj h p hp q hq he
structure MP(ren:List (Nat×Nat))(mm pre:MM):Prop where
 inj:K5 ren pre=true
 pl:Ti pre=true
 ok:yj pre pre=true
 lt:sT ren pre=true
 nm:B3 ren mm pre=true
structure MN(ren:List (Nat×Nat))(mm pre post:MM):Prop where
 Wj:K5 ren post=true
 XW:vF (xS ren mm pre post)=true
 YM:Ti post=true
 okP:yj post post=true
 XZ:sT ren post=true
 gin:mc pre post=true
 kept:keptIn post pre=true
theorem kB{ren:List (Nat×Nat)}{mm pre post:MM}{q:Nat×MO}:q∈xS ren mm pre post↔(∃p∈post,q=(cQ ren p.1,BB ren p.2))∨(q∈mm∧∀p∈pre,cQ ren p.1≠q.1):=by
 unfold xS
 rw[aK,Ex,aL,eR]
 constructor
 ·rintro(⟨p,hp,rfl⟩|⟨h1,h2⟩)
  ·exact .inl ⟨p,hp,rfl⟩
  ·exact .inr ⟨h1,fun p hp e=>h2 (oR.2 ⟨p,hp,e⟩)⟩
 ·rintro(⟨p,hp,rfl⟩|⟨h1,h2⟩)
  ·exact .inl ⟨p,hp,rfl⟩
  ·exact .inr ⟨h1,fun h=>let⟨p,hp,e⟩:=oR.1 h;h2 p hp e⟩
theorem qo{f:FuncId}{pre:MM}{args:List SV}{ι:Type}{Q:ι→Prop}{res:ι→ST}{post:ι→MM}(hc:nV C.P f pre args Q res post)(ren:List (Nat×Nat)){vs:List Value}
 {H:Nat→Value}{Z:Nat→Nat}{a:Act}{w:World}(hm:Mod C H Z n tm mm a w)
 (hv:Pw (fun v s=>cu (cU mm) H Z w (cO C H mm) v s) vs (ye ren args))(Fm:AB args=true)(Lp:AK pre args=true)(dn:sy mm ren pre)
 (hA:MP ren mm pre)(hB:∀x,MN ren mm pre (post x))(OD:∀x,Rb (res x)=true)(Qj:∀x,P9 (post x) (res x)=true)(hd:d < n)
 (K:Act→World→Prop)(Qx:Exit→Act→World→Prop)(hK:∀x a' w',Q x→Has C n ((d,NC ren (res x))::bo (sl ren pre tm) d) (xS ren mm pre (post x)) a' w'→K a' w'):
 Calls C.P f vs.toArray w fun
  |.returned v,yc=>K (a.put (some d) v) yc
  |.panicked chain,yc=>Qx (.panic chain) a yc
  |.outgrown,_=>LetsOut Qx:=by
 have eA:∀p∈pre,(cQ ren p.1,BB ren p.2)∈mm:=fun p hp=>aT (dn.get p hp)
 let Hc:Nat→Value:=fun i=>H (cQ ren i)
 let Zc:Nat→Nat:=fun i=>Z (cQ ren i)
 have hblk:∀b,bT Hc pre b→∃q∈mm,Hb (H q.1) b:=fun b ⟨p,hp,hb⟩=>⟨_,eA p hp,hb⟩
 let V4:Nat→Prop:=fun b=>cO C H mm b∧¬bT Hc pre b
 have UW:∀b,(V4 b∨bT Hc pre b)→cO C H mm b:=fun b hb=>hb.elim (fun h=>h.1) fun h=>.inr (hblk b h)
 have Sk:Vp w V4 Hc Zc pre:=by
  refine⟨?_,fun b hb h=>h.2 hb,?_,?_,?_⟩
  ·rintro b ⟨hb|⟨p,hp,c9⟩,_⟩
   ·exact ca (hm.m0 b hb) hm.ext.size
   ·exact(hm.fresh p hp b c9).2
  ·intro p hp
   exact EZ (rR hA.pl p hp) (hm.mem _ (eA p hp)) (jx hA.ok p hp) (fun b _=>UW b)
  ·intro p hp b hb
   exact(hm.fresh _ (eA p hp) b hb).2
  ·intro p hp q hq kl b hb
   refine hm.sep _ (eA p hp) _ (eA q hq) (fun e=>kl ?_) b hb
   rw[tj hA.inj p hp q hq e]
 refine(hc.calls w V4 Hc Zc vs Sk ?_).mono ?_
 ·refine⟨by have:=hv.1;rw[rO,ak]at this;exact this,fun j s hs=>?_⟩
  obtain⟨u,hu,hr⟩:=hv.2 j (MW ren s) (by rw[rO,az,hs];rfl)
  exact⟨u,hu,EA (s3 Fm s (aj hs)) hr (s6 Lp s (aj hs)) (fun b _=>UW b)⟩
 rintro e w' ⟨x,v,He,hQ,rfl,dy,r9,qg⟩
 obtain⟨Yh,dX,bj,RN⟩:=r9
 have hB:=hB x
 have Ws:=px hB.XW
 let H':Nat→Value:=fun j=>match oO ren (post x) j with
  |some i=>He i
  |none=>H j
 have W3:∀p∈post x,∀q∈post x,cQ ren p.1=cQ ren q.1→p.1=q.1:=fun p hp q hq e=>by rw[tj hB.Wj p hp q hq e]
 have OX:∀p∈post x,H' (cQ ren p.1)=He p.1:=fun p hp=>by simp only[H',Ic W3 hp]
 have QC:∀q∈mm,(∀p∈pre,cQ ren p.1≠q.1)→H' q.1=H q.1:=fun q hq VM=>by
  have:oO ren (post x) q.1=none:=wP fun p hp e=>by
   refine yF hB.XW (cQ ren p.1,BB ren p.2) ?_ q (eR.2 ⟨hq,fun h=>?_⟩) e
   ·rw[Ex];exact aL.2 ⟨p,hp,rfl⟩
   ·obtain⟨r,hr,e⟩:=oR.1 h
    exact VM r hr e
  simp only[H',this]
 have VV:∀p∈post x,given≤p.1→H' (cQ ren p.1)=H (cQ ren p.1):=fun p hp hg=>by rw[OX p hp];exact Yh p hp hg
 have QB:∀(u:List Nat),(∀p∈pre,p.1 < given→cQ ren p.1∉u)→∀j∈u,cU mm j→cU (xS ren mm pre (post x)) j∧H' j=H j∧Z j=Z j:=by
  intro u hu j hj ⟨q,hq,Zf⟩
  subst Zf
  by_cases VM:∃p∈pre,cQ ren p.1=q.1
  ·obtain⟨p,hp,e⟩:=VM
   rcases bJ p.1 given with h1|h1
   ·exact absurd (e▸hj) (hu p hp h1)
   ·obtain⟨r,hr,pR⟩:=ib (te _ _▸hB.kept) p hp h1
    have uT:cQ ren r.1=q.1:=by rw[pR];exact e
    refine⟨⟨(cQ ren r.1,BB ren r.2),kB.2 (.inl ⟨r,hr,rfl⟩),uT⟩,?_,rfl⟩
    have:=VV r hr (by rw[pR];exact h1)
    rw[uT]at this
    exact this
  ·have Uq:∀p∈pre,cQ ren p.1≠q.1:=fun p hp e=>VM ⟨p,hp,e⟩
   exact⟨⟨q,kB.2 (.inr ⟨hq,Uq⟩),rfl⟩,QC q hq Uq,rfl⟩
 have Qz:∀b,b < w'.heap.size→cO C H' (xS ren mm pre (post x)) b→(V4 b∨bT He (post x) b):=by
  rintro b _ (hb|⟨q,hq,dS⟩)
  ·by_cases Yo:bT Hc pre b
   ·obtain⟨p,hp,c9⟩:=Yo
    rcases bJ p.1 given with h1|h1
    ·have hf:=(hm.fresh _ (eA p hp) b c9).1
     have h2:=iU hA.lt p hp h1
     rcases hf with⟨_,h3|h3⟩|⟨h3,_⟩
     ·exact absurd (hm.m0 b hb) (by omega)
     ·exact absurd hb (C.hV b h3).2
     ·simp only at h3;omega
    ·obtain⟨r,hr,pR⟩:=ib (te _ _▸hB.kept) p hp h1
     refine .inr ⟨r,hr,?_⟩
     rw[Yh r hr (by rw[pR];exact h1),pR]
     exact c9
   ·exact .inl ⟨.inl hb,Yo⟩
  ·rcases kB.1 hq with⟨p,hp,rfl⟩|⟨h1,h2⟩
   ·exact .inr ⟨p,hp,by rw[←OX p hp];exact dS⟩
   ·rw[QC q h1 h2]at dS
    refine .inl ⟨.inr ⟨q,h1,dS⟩,fun⟨p,hp,c9⟩=>?_⟩
    exact hm.sep _ (eA p hp) q h1 (h2 p hp) b c9 dS
 have Yv:∀j,cU (post x) j→cU (xS ren mm pre (post x)) (cQ ren j)∧H' (cQ ren j)=He j:=by
  rintro j ⟨p,hp,rfl⟩
  exact⟨⟨_,kB.2 (.inl ⟨p,hp,rfl⟩),rfl⟩,OX p hp⟩
 refine hK x _ _ hQ ⟨H',Z,?_⟩
 refine hm.build (bT Hc pre) dy (fun b _ hb=>hblk b hb) (by simpa[Act.put]using hm.defers) (by simp[Act.put,hm.size]) ?_ Ws ?_ ?_ ?_
 ·intro q hq WE
  rcases kB.1 hq with⟨p,hp,rfl⟩|⟨h1,h2⟩
  ·rcases bJ p.1 given with h1|h1
   ·have:=iU hB.XZ p hp h1
    simp only at WE;omega
   ·obtain⟨r,hr,pR⟩:=ib hB.gin p hp h1
    rw[show H' (cQ ren p.1,BB ren p.2).1=H (cQ ren p.1)from VV p hp h1]
    have:=hm.hg _ (eA r hr) (by rw[pR];exact WE)
    rw[pR]at this
    exact this
  ·rw[QC q h1 h2];exact hm.hg q h1 WE
 ·intro q hq
  rcases kB.1 hq with⟨p,hp,rfl⟩|⟨h1,h2⟩
  ·refine .inr ⟨fun b hb=>?_,fun iP gb=>?_⟩
   ·rw[show H' (cQ ren p.1,BB ren p.2).1=He p.1 from OX p hp]at hb
    obtain⟨h3,h4⟩:=bj p hp b hb
    rcases h4 with h4|⟨r,hr,wZ,h5⟩
    ·exact .inl ⟨h4,h3⟩
    ·refine .inr ⟨_,eA r hr,wZ,?_⟩
     rcases h5 with h5|⟨h5,h6⟩
     ·exact .inl (by show cQ ren p.1=cQ ren r.1;rw[h5])
     ·exact .inr ⟨iU hA.lt r hr h5,iU hB.XZ p hp h6⟩
   ·refine CG (rR hB.YM p hp) (dX p hp) (OX p hp) (fun j _ hj=>Yv j hj) Qz
  ·refine .inl ⟨h1,QC q h1 h2,rfl,fun b hb ⟨p,hp,c9⟩=>?_,fun j hj km=>QB q.2.bw (fun p hp hg=>qK hA.nm p hp hg q h1) j hj km⟩
   exact hm.sep _ (eA p hp) q h1 (h2 p hp) b c9 hb
 ·intro q hq r hr RQ b dS wZ
  rcases kB.1 hq with⟨p,hp,rfl⟩|⟨h1,h2⟩<;>rcases kB.1 hr with⟨s,hs,rfl⟩|⟨k1,k2⟩
  ·rw[show H' (cQ ren p.1,BB ren p.2).1=He p.1 from OX p hp]at dS
   rw[show H' (cQ ren s.1,BB ren s.2).1=He s.1 from OX s hs]at wZ
   exact RN p hp s hs (fun e=>RQ (by show cQ ren p.1=cQ ren s.1;rw[e])) b dS wZ
  ·rw[show H' (cQ ren p.1,BB ren p.2).1=He p.1 from OX p hp]at dS
   rw[QC r k1 k2]at wZ
   rcases(bj p hp b dS).2 with h4|⟨s,hs,VJ,_⟩
   ·have:=(hm.fresh r k1 b wZ).2;omega
   ·exact hm.sep _ (eA s hs) r k1 (k2 s hs) b VJ wZ
  ·rw[show H' (cQ ren s.1,BB ren s.2).1=He s.1 from OX s hs]at wZ
   rw[QC q h1 h2]at dS
   rcases(bj s hs b wZ).2 with h4|⟨p,hp,c9,_⟩
   ·have:=(hm.fresh q h1 b dS).2;omega
   ·exact hm.sep _ (eA p hp) q h1 (h2 p hp) b c9 dS
  ·rw[QC q h1 h2]at dS
   rw[QC r k1 k2]at wZ
   exact hm.sep q h1 r k1 RQ b dS wZ
 ·intro p hp
  rcases ae.1 hp with rfl|hp
  ·refine .inr fun _ _=>?_
   rw[iD (by rw[hm.size];exact hd)]
   exact B6 (OD x) qg (fun j _ hj=>Yv j hj) Qz
  ·obtain⟨h1,h2⟩:=cj hp
   obtain⟨h3,h4⟩:=tD h1
   exact .inl ⟨p,h3,rfl,fV h2,fun j hj km=>QB p.2.bw h4 j hj km⟩
theorem Ks{f:FuncId}{pre:MM}{args:List SV}{ι:Type}{Q:ι→Prop}{res:ι→ST}{post:ι→MM}(hc:nV C.P f pre args Q res post)(ren:List (Nat×Nat)){xs:Array Operand}{ts:Array TypeId}
 (ho:o.op=.call {callee:=.value (.func f),args:=xs,argTypes:=ts})(cE:dr tm xs.toList=some (ye ren args))(Fm:AB args=true)(Lp:AK pre args=true)(dn:sy mm ren pre)
 (hA:MP ren mm pre)(hB:∀x,MN ren mm pre (post x))(OD:∀x,Rb (res x)=true)(Qj:∀x,P9 (post x) (res x)=true)(hd:o.dst=some d)(hn:Nat.blt d n=true)
 {a:Act}{w:World}{K:Act→World→Prop}{Qx:Exit→Act→World→Prop}(hh:Has C n tm mm a w)
 (hK:∀x a' w',Q x→Has C n ((d,NC ren (res x))::bo (sl ren pre tm) d) (xS ren mm pre (post x)) a' w'→K a' w'):o.wp C.P a w K Qx:=by
 obtain⟨H,Z,hm⟩:=hh
 have xb:=qo hc ren hm (gr hm cE) Fm Lp dn hA hB OD Qj (a6.mp hn) K Qx hK
 unfold Oper.wp
 have dL:(execOp a.eval o).run C.P w=.ok (.enter f (xs.toList.map a.eval).toArray) w:=by
  have qY:xs.map a.eval=(xs.toList.map a.eval).toArray:=by simp[←cF]
  simp only[execOp,ho,resolve,qY,Deferred.ofValue,Act.eval,invoke,Sem.run_bind,Sem.run_pure,Result.andThen_ok,rA,jg,hc.ok w]
 rw[dL]
 show Calls _ _ _ _ _
 rw[hd]
 exact xb
theorem iI{f:FuncId}{pre:MM}{args:List SV}{ι:Type}{Q:ι→Prop}{res:ι→ST}{post:ι→MM}(hc:nV C.P f pre args Q res post)(ren:List (Nat×Nat)){xs:Array Operand}{ts:Array TypeId}
 (ho:o.op=.call {callee:=.value (.func f),args:=xs,argTypes:=ts})(cE:dr tm xs.toList=some (ye ren args))(Fm:AB args=true)(Lp:AK pre args=true)(dn:sy mm ren pre)
 (hA:MP ren mm pre)(hB:∀x,MN ren mm pre (post x))(OD:∀x,Rb (res x)=true)(Qj:∀x,P9 (post x) (res x)=true)(hd:o.dst=some d)(hn:Nat.blt d n=true)(hg:aY L tm o=some true)
 (k:∀x,Q x→SOps C n L.toArray l ((d,NC ren (res x))::bo (sl ren pre tm) d) (xS ren mm pre (post x)) T):SOps C n L.toArray (o::l) tm mm T:=by
 intro a w hh
 unfold wpList
 rw[if_pos (gC (gD hg) hh)]
 exact .inl (Ks hc ren ho cE Fm Lp dn hA hB OD Qj hd hn hh fun x a' w' hq h'=>k x hq a' w' h')
theorem N0{f:FuncId}{pre:MM}{args:List SV}{ι:Type}{Q:ι→Prop}{res:ι→ST}{post:ι→MM}(hc:nV C.P f pre args Q res post)(ren:List (Nat×Nat)){x:Operand}{c7:List Nat}{args':List SV}{xs:Array Operand}{ts:Array TypeId}
 (ho:o.op=.call {callee:=.value x,args:=xs,argTypes:=ts})(hx:aQ tm x=some (.kD f c7))(cE:dr tm xs.toList=some args')(LI:yz args' c7=ye ren args)
 (Fy:c7.all (fun i=>match getM mm i with|some (.box _)=>true|_=>false)=true)(Fm:AB args=true)(Lp:AK pre args=true)(dn:sy mm ren pre)
 (hA:MP ren mm pre)(hB:∀x,MN ren mm pre (post x))(OD:∀x,Rb (res x)=true)(Qj:∀x,P9 (post x) (res x)=true)(hd:o.dst=some d)(hn:Nat.blt d n=true)
 {a:Act}{w:World}{K:Act→World→Prop}{Qx:Exit→Act→World→Prop}(hh:Has C n tm mm a w)
 (hK:∀x a' w',Q x→Has C n ((d,NC ren (res x))::bo (sl ren pre tm) d) (xS ren mm pre (post x)) a' w'→K a' w'):o.wp C.P a w K Qx:=by
 obtain⟨H,Z,hm⟩:=hh
 obtain⟨Qw,Vc,Xj,sC,Xo⟩:=aU hm hx
 have RR:Pw (fun v s=>cu (cU mm) H Z w (cO C H mm) v s) ((xs.toList.map a.eval)++Vc) (yz args' c7):=by
  rw[Hk]
  refine(gr hm cE).append ⟨by simpa using sC,fun j c vq=>?_⟩
  rw[az]at vq
  cases hq:c7[j]? with
  |none=>rw[hq]at vq;cases vq
  |some i=>
   rw[hq]at vq;injection vq with vq;subst vq
   refine⟨H i,Xo j i hq,Qw i (aj hq),?_⟩
   have hb:=a7.1 Fy i (aj hq)
   split at hb
   ·rename_i cs hg
    obtain⟨b,_,_,g1,_⟩:=hm.box hg
    exact⟨b,by rw[g1];rfl,g1⟩
   ·cases hb
 have xb:=qo hc ren hm (LI▸RR) Fm Lp dn hA hB OD Qj (a6.mp hn) K Qx hK
 unfold Oper.wp
 have dL:(execOp a.eval o).run C.P w=.ok (.enter f ((xs.toList.map a.eval)++Vc).toArray) w:=by
  have qY:xs.map a.eval=(xs.toList.map a.eval).toArray:=by simp[←cF]
  simp only[execOp,ho,resolve,qY,Xj,Deferred.ofValue,invoke,Sem.run_bind,Sem.run_pure,Result.andThen_ok,jg,hc.ok w,List.append_toArray,gN]
 rw[dL]
 show Calls _ _ _ _ _
 rw[hd]
 exact xb
theorem Ar{f:FuncId}{pre:MM}{args:List SV}{ι:Type}{Q:ι→Prop}{res:ι→ST}{post:ι→MM}(hc:nV C.P f pre args Q res post)(ren:List (Nat×Nat)){x:Operand}{c7:List Nat}{args':List SV}{xs:Array Operand}{ts:Array TypeId}
 (ho:o.op=.call {callee:=.value x,args:=xs,argTypes:=ts})(hx:aQ tm x=some (.kD f c7))(cE:dr tm xs.toList=some args')(LI:yz args' c7=ye ren args)
 (Fy:c7.all (fun i=>match getM mm i with|some (.box _)=>true|_=>false)=true)(Fm:AB args=true)(Lp:AK pre args=true)(dn:sy mm ren pre)
 (hA:MP ren mm pre)(hB:∀x,MN ren mm pre (post x))(OD:∀x,Rb (res x)=true)(Qj:∀x,P9 (post x) (res x)=true)(hd:o.dst=some d)(hn:Nat.blt d n=true)(hg:aY L tm o=some true)
 (k:∀x,Q x→SOps C n L.toArray l ((d,NC ren (res x))::bo (sl ren pre tm) d) (xS ren mm pre (post x)) T):SOps C n L.toArray (o::l) tm mm T:=by
 intro a w hh
 unfold wpList
 rw[if_pos (gC (gD hg) hh)]
 exact .inl (N0 hc ren ho hx cE LI Fy Fm Lp dn hA hB OD Qj hd hn hh fun x a' w' hq h'=>k x hq a' w' h')
end
section
variable {C:Ctx} {n:Nat} {L:List Oper} {ι:Type} {cN:TM} {ET:Nat→ι→TM} {MMx:Nat→ι→MM} {k:Nat} {x:ι} {o:Oper} {d:Nat}
end
end Go.Sy
