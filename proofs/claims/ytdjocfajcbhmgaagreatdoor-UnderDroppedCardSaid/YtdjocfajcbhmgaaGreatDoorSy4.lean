/- The symbolic layer, bundle Sy4. -/
import Derived.Test.YtdjocfajcbhmgaaGreatDoorSy3
import Derived.Laws.StructEq
import Derived.MapKept
set_option linter.unusedSimpArgs false
set_option linter.unusedVariables false
set_option linter.unusedSectionVars false
namespace Go.Sy
open Go.RowKit
structure va(P:Program)(k:TypeId){α:Type}[DecidableEq α](rep:α→Value):Prop where
 Jh:∀em a w,(Instr.checkKey em 10000 k (rep a)).run P w=.ok () w
 find:∀(a:α) (es:List MapEntry) (m:List α) (w:World),es.map (·.key)=m.map rep→
  (Instr.findKey k (rep a) es).run P w=.ok ((m.findIdx? (fun b=>decide (a=b))).bind fun i=>(es[i]?).map fun e=>(i,e.val)) w
 bits:∀a,Instr.sameBits 10000 (rep a) (rep a)=true
theorem oF{P:Program}{k e:TypeId}{ik ie:fN}{AZ RE:TypeInfo}(hk:Bz P k ik AZ (.array 2 e))(he:Bz P e ie RE (.int .i64))(hs:ie.size=1)(ha:ie.agg=false)(a b c d:Int)(w:World):
 (Op.equal k (.agg #[.int .i64 a,.int .i64 b]) (.agg #[.int .i64 c,.int .i64 d])).run P w=.ok (decide ((a,b)=(c,d))) w:=by
 have u3:=he.Aj
 have a3:∀w,(isAgg e).run P w=.ok false w:=fun w=>by rw[←ha];exact he.isAgg
 have z3:∀w,(sizeOf e).run P w=.ok 1 w:=fun w=>by rw[←hs];exact he.sizeOf
 unfold Op.equal
 rw[show Op.maxDepth=9999+1 from rfl,Op.equalIn]
 simp only[Sem.run_bind,run_underlying hk.Aj,Result.andThen_ok,z3]
 simp only[Std.Legacy.Range.forIn_eq_forIn_range',Std.Legacy.Range.size,Nat.sub_zero,Nat.add_sub_cancel,Nat.div_one,List.range'_succ,List.range'_zero,List.forIn_cons,List.forIn_nil]
 have Qi:∀(x y:Int) (w:World),(part e #[.int .i64 x,.int .i64 y] 0).run P w=.ok (.int .i64 x) w:=fun x y w=>by simp[part,Sem.run_bind,a3]
 have A6:∀(x y:Int) (w:World),(part e #[.int .i64 x,.int .i64 y] 1).run P w=.ok (.int .i64 y) w:=fun x y w=>by simp[part,Sem.run_bind,a3]
 have heq:∀(x y:Int) (w:World),(Op.equalIn 9999 e (.int .i64 x) (.int .i64 y)).run P w=.ok (x==y) w:=by
  intro x y w
  rw[show(9999:Nat)=9998+1 from rfl,Op.equalIn]
  simp[Sem.run_bind,run_underlying u3]
 by_cases h1:a=c<;>by_cases h2:b=d<;>
  simp[Sem.run_bind,Qi,A6,heq,h1,h2]
def l3(p:Int×Int):Value:=.agg #[.int .i64 p.1,.int .i64 p.2]
theorem zj{P:Program}{k e:TypeId}{ik ie:fN}{AZ RE:TypeInfo}(hk:Bz P k ik AZ (.array 2 e))(he:Bz P e ie RE (.int .i64))(hs:ie.size=1)(ha:ie.agg=false):va P k l3:=by
 have a3:∀w,(isAgg e).run P w=.ok false w:=fun w=>by rw[←ha];exact he.isAgg
 have z3:∀w,(sizeOf e).run P w=.ok 1 w:=fun w=>by rw[←hs];exact he.sizeOf
 refine⟨fun em a w=>?_,fun a es m w hm=>?_,fun a=>by simp[l3,Instr.sameBits]⟩
 ·have Qi:∀(x y:Int) (w:World),(part e #[.int .i64 x,.int .i64 y] 0).run P w=.ok (.int .i64 x) w:=fun x y w=>by simp[part,Sem.run_bind,a3]
  have A6:∀(x y:Int) (w:World),(part e #[.int .i64 x,.int .i64 y] 1).run P w=.ok (.int .i64 y) w:=fun x y w=>by simp[part,Sem.run_bind,a3]
  have hc:∀(x:Int) (w:World),(Instr.checkKey em 9999 e (.int .i64 x)).run P w=.ok () w:=by
   intro x w
   rw[show(9999:Nat)=9998+1 from rfl,Instr.checkKey]
   simp[Sem.run_bind,run_underlying he.Aj]
  rw[show(10000:Nat)=9999+1 from rfl,Instr.checkKey]
  simp only[Sem.run_bind,run_underlying hk.Aj,Result.andThen_ok,l3]
  simp only[Std.Legacy.Range.forIn_eq_forIn_range',Std.Legacy.Range.size,Nat.sub_zero,Nat.add_sub_cancel,Nat.div_one,List.range'_succ,List.range'_zero,List.forIn_cons,List.forIn_nil]
  simp[Sem.run_bind,z3,Qi,A6,hc]
 ·have key:∀(es:List MapEntry) (m:List (Int×Int)) (i:Nat),es.map (·.key)=m.map l3→
   (Instr.findAsking k (l3 a) es i).run P w=.ok ((m.findIdx? (fun b=>decide (a=b))).bind fun j=>(es[j]?).map fun x=>(j+i,x.val)) w:=by
   intro es
   induction es with
   |nil=>intro m i h;cases m<;>simp at h;simp[Instr.findAsking]
   |cons x es ih=>
    intro m i h
    cases m with
    |nil=>simp at h
    |cons b m=>
     simp at h
     obtain⟨h1,h2⟩:=h
     rw[Instr.findAsking]
     rw[h1]
     simp only[Sem.run_bind,l3,oF hk he hs ha,Result.andThen_ok]
     by_cases ur:a=b
     ·subst ur;simp[fk]
     ·have Xt:¬(a.1,a.2)=(b.1,b.2):=ur
      have:=ih m (i+1) (by simpa using h2)
      simp only[l3]at this
      simp only[Xt,decide_false,cP,if_false,this,fk,ur]
      cases m.findIdx? fun b=>decide (a=b)with
      |none=>simp
      |some j=>
       have:j+(i+1)=j+1+i:=by omega
       simp[this]
  unfold Instr.findKey
  simp only[Sem.run_bind,run_underlying hk.Aj,Result.andThen_ok]
  cases es with
  |nil=>
   cases m with
   |nil=>simp[Instr.findNow]
   |cons b m=>simp at hm
  |cons x es=>
   have h0:Instr.findNow (.array 2 e) (l3 a) (x::es) 0=none:=by
    simp[Instr.findNow,Instr.sameNow]
   rw[h0]
   simpa using key (x::es) m 0 hm
end Go.Sy
namespace Go.Sy
open Go.RowKit
def dI{α:Type}(kf:α→FV)(m:List (α×CT)):List (FV×FV):=m.map fun q=>(kf q.1,.one q.2)
def dE{α:Type}[DecidableEq α](m:List (α×CT))(a:α)(z:CT):CT:=
 match m.find? fun q=>decide (a=q.1)with
 |some q=>q.2
 |none=>z
def iq{α:Type}[DecidableEq α](m:List (α×CT))(a:α)(c:CT):List (α×CT):=
 match m.findIdx? fun q=>decide (a=q.1)with
 |some i=>m.set i (a,c)
 |none=>m++[(a,c)]
theorem xp{α:Type}{rep:α→Value}{kf:α→FV}(yu:∀(w:World) (M:Nat→Prop) (v:Value) (a:α),iR w M v (kf a)→v=rep a){w:World}{M:Nat→Prop}{m:List (α×CT)}{es:Array MapEntry}
 (hs:es.size=(dI kf m).length)(h:∀(j:Nat) (p:FV×FV),(dI kf m)[j]? =some p→∃en:MapEntry,es[j]? =some en∧iR w M en.key p.1∧iR w M en.val p.2):
 es.toList.map (·.key)=(m.map (·.1)).map rep:=by
 apply eh
 intro j
 rw[az,az,az]
 cases hm:m[j]? with
 |none=>
  have:es.toList[j]? =none:=by
   rw[gK]at hm⊢
   simp[dI]at hs
   simp;omega
  rw[this];rfl
 |some q=>
  obtain⟨en,h1,h2,_⟩:=h j (kf q.1,.one q.2) (by simp[dI,hm])
  have:es.toList[j]? =some en:=by simpa using h1
  rw[this]
  simp[yu _ _ _ _ h2]
section
variable {C:Ctx} {n:Nat} {tm:TM} {mm:MM} {o:Oper} {d:Nat} {α:Type} [DecidableEq α]
theorem xn{m:List (α×CT)}{a:α}:((m.map (·.1)).findIdx? fun b=>decide (a=b))=m.findIdx? fun q=>decide (a=q.1):=by
 rw[List.findIdx?_map];rfl
theorem pE{Θ:da}(bt:a8 C.P Θ){t k e:TypeId}{x y:Operand}{z cz:Nat}{ag:Bool}{zt:Option (List CT)}{ei:fN}{zc:CT}{i:Nat}{rep:α→Value}{kf:α→FV}{m:List (α×CT)}{a0:α}{s:SV}
 (ho:o.op=.lookup t x y false)(ht:aP Θ t=some ⟨z,cz,ag,zt,.map k e⟩)(dO:aP Θ e=some ei)(hz:ei.zero=some [zc])(yt:ei.agg=false)
 (hK:va C.P k rep)(yu:∀(w:World) (M:Nat→Prop) (v:Value) (a:α),iR w M v (kf a)→v=rep a)
 (hx:aQ tm x=some (.mp i))(hi:getM mm i=some (.fw (dI kf m)))(hy:cx tm y=some s)(hs:∀I H Z w M v,cu I H Z w M v s→v=rep a0)(hd:o.dst=some d)(hn:Nat.blt d n=true):
 ea C n o tm mm d (.v (.one (.c (dE m a0 zc)))):=
 ea.val hd hn _ fun H Z a w hm=>by
  obtain⟨inf,de,hf⟩:=gI bt ht
  obtain⟨jK,qw,fK⟩:=gI bt dO
  obtain⟨zv,wV,qe,BD⟩:=fK.zero _ hz
  have jL:de=.map k e:=by
   have:=hf.sh
   cases de<;>simp[dA]at this⊢
   exact this
  subst jL
  obtain⟨_,hv⟩:=aU hm hx
  obtain⟨r,es,ck,h1,h2,h3,h4⟩:=hm.mem _ (aT hi)
  have hk:=hs _ _ _ _ _ _ (c8 hm hy)
  have ly:=xp yu h3 h4
  have dp:=hK.find a0 es.toList (m.map (·.1)) w (by simpa using ly)
  rw[xn]at dp
  have fy:(getObj r).run C.P w=.ok (.map es ck) w:=by simp[getObj,Sem.run,h2]
  have A3:=fK.zeroValue (w:=w) wV
  have wW:aV w (cO C H mm) zv zc:=by
   obtain⟨q1,q2⟩:=e8 (w:=w) (M:=cO C H mm) qe
   obtain⟨u,hu,hr⟩:=q2 0 zc J
   rw[yt]at qe
   have:u=zv:=by
    cases zv<;>first|(simp[Value.cells]at hu;exact hu.symm)|(cases zc<;>simp[BO,oq,BN]at qe)
   rw[←this];exact hr
  cases oY:m.findIdx? fun q=>decide (a0=q.1)with
  |none=>
   have hl:dE m a0 zc=zc:=by
    have:m.find? (fun q=>decide (a0=q.1))=none:=by
     rw[du]
     intro q hq
     rw[bx]at oY
     simp[oY q hq]
    simp[dE,this]
   rw[hl]
   refine⟨zv,?_,wW⟩
   rw[oY]at dp
   simp only[execOp,ho,Instr.lookup,Sem.run_bind,hf.underlying,Result.andThen_ok,hv,h1,hk,fy,hK.Jh,Sem.run_pure]
   simp at dp
   simp[dp,A3,Sem.run_bind]
  |some j=>
   have oX:=oY
   rw[bh]at oX
   obtain⟨hj,GR,M6⟩:=oX
   have hl:dE m a0 zc=m[j].2:=by
    have:m.find? (fun q=>decide (a0=q.1))=some m[j]:=by
     rw[fl]
     exact⟨GR,j,hj,rfl,fun i hi=>by simpa using M6 i hi⟩
    simp[dE,this]
   rw[hl]
   obtain⟨en,g1,g2,g3⟩:=h4 j (kf m[j].1,.one m[j].2) (by simp[dI,hj])
   refine⟨en.val,?_,g3⟩
   rw[oY]at dp
   have II:es.toList[j]? =some en:=by simpa using g1
   simp only[kE,II,dQ]at dp
   simp only[execOp,ho,Instr.lookup,Sem.run_bind,hf.underlying,Result.andThen_ok,hv,h1,hk,fy,hK.Jh,Sem.run_pure,dp]
   simp
theorem kU{Θ:da}(bt:a8 C.P Θ){t k e:TypeId}{x y vx:Operand}{z cz:Nat}{ag:Bool}{zt:Option (List CT)}{c:CT}{i:Nat}{rep:α→Value}{kf:α→FV}{m:List (α×CT)}{a0:α}{s:SV}
 (ho:o.op=.mapUpdate t x y vx∨o.op=.insert t x y vx)(ht:aP Θ t=some ⟨z,cz,ag,zt,.map k e⟩)
 (hK:va C.P k rep)(yu:∀(w:World) (M:Nat→Prop) (v:Value) (a:α),iR w M v (kf a)↔v=rep a)
 (hx:aQ tm x=some (.mp i))(hi:getM mm i=some (.fw (dI kf m)))(hy:cx tm y=some s)(hs:∀I H Z w M v,cu I H Z w M v s→v=rep a0)(C6:na tm vx=some (.one (.c c)))
 (hd:o.dst=none):xX C n o tm mm tm (cS mm i (.fw (dI kf (iq m a0 c)))):=by
 intro a w ⟨H,Z,hm⟩
 obtain⟨inf,de,hf⟩:=gI bt ht
 have jL:de=.map k e:=by
  have:=hf.sh
  cases de<;>simp[dA]at this⊢
  exact this
 subst jL
 obtain⟨_,hv⟩:=aU hm hx
 obtain⟨r,es,ck,h1,h2,h3,h4⟩:=hm.mem _ (aT hi)
 have hk:=hs _ _ _ _ _ _ (c8 hm hy)
 have uS:aV w (cO C H mm) (a.eval vx) c:=tw hm C6
 have ly:=xp (fun w M v a h=>(yu w M v a).1 h) h3 h4
 have dp:=hK.find a0 es.toList (m.map (·.1)) w (by simpa using ly)
 rw[xn]at dp
 have XC:Hb (H i) r:=by rw[h1];rfl
 have BF:r < w.heap.size:=(bd.1 h2).1
 have fin:∀(Dw:Array MapEntry) (Px:Nat),(execOp a.eval o).run C.P w=.ok .skip {w with heap:=w.heap.setIfInBounds r (.map Dw Px)}→Dw.size=(dI kf (iq m a0 c)).length→
  (∀(j:Nat) (p:FV×FV),(dI kf (iq m a0 c))[j]? =some p→∃en:MapEntry,Dw[j]? =some en∧iR w (cO C H mm) en.key p.1∧iR w (cO C H mm) en.val p.2)→
  (∃v w',(execOp a.eval o).run C.P w=.ok (.value v) w'∧Has C n tm (cS mm i (.fw (dI kf (iq m a0 c)))) (a.put o.dst v) w')∨
  (∃w',(execOp a.eval o).run C.P w=.ok .skip w'∧Has C n tm (cS mm i (.fw (dI kf (iq m a0 c)))) (a.put o.dst undef) w'):=by
  intro Dw Px dL cM R7
  have dy:Ext (fun b=>b=r) w {w with heap:=w.heap.setIfInBounds r (.map Dw Px)}:=
   ⟨rfl,rfl,rfl,by simp,fun k _ cV=>by simp[ny (Ne.symm cV)]⟩
  refine .inr ⟨_,dL,H,Z,?_⟩
  rw[hd]
  refine hm.jV (b0:=r) ⟨_,aT hi,rfl⟩ XC dy hm.defers hm.size ?_ (fun p hp=>⟨hp,rfl⟩)
  intro iP gb
  refine⟨r,Dw,Px,h1,by simp[BF],cM,fun j p hp=>?_⟩
  obtain⟨en,q1,q2,q3⟩:=R7 j p hp
  exact⟨en,q1,q2.mono dy.size gb iP,q3.mono dy.size gb iP⟩
 cases oY:m.findIdx? fun q=>decide (a0=q.1)with
 |none=>
  rw[oY]at dp
  simp only[Option.bind_none]at dp
  have kK:iq m a0 c=m++[(a0,c)]:=by simp[iq,oY]
  refine fin (es.push {key:=rep a0,val:=a.eval vx,born:=ck}) (ck+1) ?_ ?_ ?_
  ·rcases ho with ho|ho<;>
    simp[execOp,ho,Instr.mapUpdate,Sem.run_bind,hf.underlying,hv,h1,hk,MapKept.run_getObj_map h2,hK.Jh,dp,MapKept.run_setObj_map _ h2,Result.andThen]
  ·rw[kK];simp[dI]at h3⊢;exact h3
  ·intro j p hp
   rw[kK]at hp
   simp only[dI,bg,bN,jd]at hp
   have Ft:es.size=(m.map fun q=>(kf q.1,FV.one q.2)).length:=h3
   rw[bX]at hp
   split at hp
   ·rename_i fg
    obtain⟨en,q1,q2⟩:=h4 j p hp
    exact⟨en,by rw[ql,if_neg (by omega)];exact q1,q2⟩
   ·rename_i fg
    have OM:j=es.size:=by
     have:=(ai.1 hp).1
     simp at this fg Ft
     omega
    subst OM
    rw[Ft,Nat.sub_self]at hp
    simp at hp
    subst hp
    refine⟨{key:=rep a0,val:=a.eval vx,born:=ck},by rw[ql,if_pos J],(yu _ _ _ _).2 J,?_⟩
    exact uS
 |some j=>
  have oX:=oY
  rw[bh]at oX
  obtain⟨hj,GR,M6⟩:=oX
  obtain⟨en,g1,g2,g3⟩:=h4 j (kf m[j].1,.one m[j].2) (by simp[dI,hj])
  have Iz:en.key=rep a0:=by
   rw[(yu _ _ _ _).1 g2]
   have:a0=m[j].1:=by simpa using GR
   rw[←this]
  rw[oY]at dp
  have II:es.toList[j]? =some en:=by simpa using g1
  simp only[kE,II,dQ]at dp
  have kK:iq m a0 c=m.set j (a0,c):=by simp[iq,oY]
  refine fin (es.modify j fun e=>{e with key:=rep a0,val:=a.eval vx}) ck ?_ ?_ ?_
  ·rcases ho with ho|ho<;>
    simp[execOp,ho,Instr.mapUpdate,Sem.run_bind,hf.underlying,hv,h1,hk,MapKept.run_getObj_map h2,hK.Jh,dp,g1,Iz,Instr.keyThatStays,hK.bits,MapKept.run_setObj_map _ h2,Result.andThen]
  ·rw[kK];simp[dI]at h3⊢;exact h3
  ·intro j' p hp
   rw[kK]at hp
   simp only[dI,az,cv]at hp
   by_cases A8:j=j'
   ·subst A8
    rw[if_pos J,if_pos hj]at hp
    simp at hp
    subst hp
    refine⟨{en with key:=rep a0,val:=a.eval vx},by rw[e7,if_pos J,g1];rfl,(yu _ _ _ _).2 J,?_⟩
    exact uS
   ·rw[if_neg A8]at hp
    obtain⟨XL,q1,q2⟩:=h4 j' p (by simpa[dI]using hp)
    exact⟨XL,by rw[e7,if_neg A8];exact q1,q2⟩
end
end Go.Sy
namespace Go.Sy
open Go.RowKit
abbrev P8(p:Int×Int):FV:=.agg [.int .i64 p.1,.int .i64 p.2]
abbrev BY(l:List (Int×Int)):MO:=.fw (dI P8 (l.map fun p=>(p,CT.bool true)))
theorem s4(w:World)(M:Nat→Prop)(v:Value)(a:Int×Int):iR w M v (P8 a)↔v=l3 a:=by
 constructor
 ·rintro⟨vs,rfl,h2,h3⟩
  obtain⟨u0,g0,r0⟩:=h3 0 _ J
  obtain⟨u1,g1,r1⟩:=h3 1 _ J
  have e0:=aV.cA r0
  have e1:=aV.cA r1
  subst e0 e1
  have:vs=#[.int .i64 a.1,.int .i64 a.2]:=by
   apply Array.ext_getElem?
   intro i
   match i with
   |0=>simp[g0]
   |1=>simp[g1]
   |i+2=>
    have:vs.size≤i+2:=by simp at h2;omega
    rw[mE this];simp
  rw[this];rfl
 ·rintro rfl
  refine⟨_,rfl,rfl,fun j c hc=>?_⟩
  match j,hc with
  |0,hc=>simp at hc;subst hc;exact⟨_,rfl,.int _ _⟩
  |1,hc=>simp at hc;subst hc;exact⟨_,rfl,.int _ _⟩
  |j+2,hc=>simp at hc
theorem pD{x y:Int}(I:Nat→Prop)(H:Nat→Value)(Z:Nat→Nat)(w:World)(M:Nat→Prop)(v:Value)(h:cu I H Z w M v (.agg [.c (.int .i64 x),.c (.int .i64 y)])):v=l3 (x,y):=by
 obtain⟨vs,h1,h2,h3⟩:=h
 refine(s4 w M v (x,y)).1 ⟨vs,h1,h2,fun j c hc=>?_⟩
 match j,hc with
 |0,hc=>simp at hc;subst hc;exact h3 0 _ J
 |1,hc=>simp at hc;subst hc;exact h3 1 _ J
 |j+2,hc=>simp at hc
theorem JE{l:List (Int×Int)}{p:Int×Int}:dE (l.map fun q=>(q,CT.bool true)) p (.bool false)=.bool (decide (p∈l)):=by
 unfold dE
 cases h:(l.map fun q=>(q,CT.bool true)).find? fun q=>decide (p=q.1)with
 |none=>
  rw[du]at h
  have:p∉l:=fun hp=>by simpa using h (p,.bool true) (bp hp)
  simp[this]
 |some q=>
  have h1:=yD h
  have h2:=kM h
  obtain⟨r,hr,rfl⟩:=aL.1 h2
  have:p=r:=by simpa using h1
  subst this
  simp[hr]
def lR(l:List (Int×Int))(p:Int×Int):List (Int×Int):=if p∈l then l else l++[p]
theorem No{l:List (Int×Int)}{p:Int×Int}:iq (l.map fun q=>(q,CT.bool true)) p (.bool true)=(lR l p).map fun q=>(q,CT.bool true):=by
 unfold iq lR
 cases h:(l.map fun q=>(q,CT.bool true)).findIdx? fun q=>decide (p=q.1)with
 |none=>
  rw[bx]at h
  have:p∉l:=fun hp=>by simpa using h (p,.bool true) (bp hp)
  simp[this]
 |some i=>
  rw[bh]at h
  obtain⟨hi,h1,_⟩:=h
  have sb:i < l.length:=by simpa using hi
  have hp:p=l[i]:=by simpa using h1
  have:p∈l:=by rw[hp];exact an sb
  simp only[this,if_true]
  apply eh
  intro j
  rw[cv]
  by_cases km:i=j
  ·subst km;simp[sb,hp]
  ·simp[km]
section
variable {C:Ctx} {n:Nat} {tm:TM} {mm:MM} {L l:List Oper} {T:TM→MM→Prop} {o:Oper} {d:Nat}
theorem P5{Θ:da}(bt:a8 C.P Θ){t k e e':TypeId}{x y:Operand}{z cz zk bk be zb bb:Nat}{ag nt:Bool}{zt mF QQ:Option (List CT)}{YK:Sh}{i:Nat}{m:List (Int×Int)}{p q:Int}
 (ho:o.op=.lookup t x y false)(ht:aP Θ t=some ⟨z,cz,ag,zt,.map k e⟩)(dO:aP Θ e=some ⟨zb,bb,false,some [.bool false],YK⟩)(hk:aP Θ k=some ⟨zk,bk,nt,mF,.arr 2 e'⟩)(he:aP Θ e'=some ⟨1,be,false,QQ,.int .i64⟩)
 (hx:aQ tm x=some (.mp i))(hi:getM mm i=some (BY m))(hy:cx tm y=some (.agg [.c (.int .i64 p),.c (.int .i64 q)]))(hd:o.dst=some d)(hn:Nat.blt d n=true)(hg:aY L tm o=some true)
 (g:SOps C n L.toArray l ((d,.v (.one (.c (.bool (decide ((p,q)∈m))))))::bo tm d) mm T):SOps C n L.toArray (o::l) tm mm T:=by
 obtain⟨inf,de,hf⟩:=gI bt hk
 obtain⟨jK,qw,fK⟩:=gI bt he
 have h1:de=.array 2 e':=by
  have:=hf.sh
  cases de<;>simp[dA]at this⊢
  exact this
 have h2:qw=.int .i64:=by
  have:=fK.sh
  cases qw<;>simp[dA]at this⊢
  exact this
 subst h1 h2
 have h3:=pE (n:=n) (zc:=.bool false) bt ho ht dO J J (zj hf fK J J) (fun w M v a h=>(s4 w M v a).1 h) hx hi hy pD hd hn
 rw[JE]at h3
 exact cB h3.wp hg g
theorem JL{Θ:da}(bt:a8 C.P Θ){t k e e':TypeId}{x y vx:Operand}{z cz zk bk be:Nat}{ag nt:Bool}{zt mF QQ:Option (List CT)}{i:Nat}{m:List (Int×Int)}{p q:Int}
 (ho:o.op=.mapUpdate t x y vx∨o.op=.insert t x y vx)(ht:aP Θ t=some ⟨z,cz,ag,zt,.map k e⟩)(hk:aP Θ k=some ⟨zk,bk,nt,mF,.arr 2 e'⟩)(he:aP Θ e'=some ⟨1,be,false,QQ,.int .i64⟩)
 (hx:aQ tm x=some (.mp i))(hi:getM mm i=some (BY m))(hy:cx tm y=some (.agg [.c (.int .i64 p),.c (.int .i64 q)]))(C6:na tm vx=some (.one (.c (.bool true))))(hd:o.dst=none)(hg:aY L tm o=some true)
 (g:SOps C n L.toArray l tm (cS mm i (BY (lR m (p,q)))) T):SOps C n L.toArray (o::l) tm mm T:=by
 obtain⟨inf,de,hf⟩:=gI bt hk
 obtain⟨jK,qw,fK⟩:=gI bt he
 have h1:de=.array 2 e':=by
  have:=hf.sh
  cases de<;>simp[dA]at this⊢
  exact this
 have h2:qw=.int .i64:=by
  have:=fK.sh
  cases qw<;>simp[dA]at this⊢
  exact this
 subst h1 h2
 have h3:=kU (n:=n) (c:=.bool true) bt ho ht (zj hf fK J J) s4 hx hi hy pD C6 hd
 rw[No]at h3
 exact cB h3.wp hg g
theorem QX{Θ:da}(bt:a8 C.P Θ){t:TypeId}{x y:Operand}{id:Nat}{nn:Bool}{sz:Nat}{xs:List (List CT)}{kd:IntKind}{m:Int}{e e':Nat}{z cz:Nat}{ag:Bool}{zr:Option (List CT)}{ei:fN}
 (ho:o.op=.indexAddr t x y)(ht:aP Θ t=some ⟨z,cz,ag,zr,.slice e⟩)(dO:aP Θ e=some ei)(cM:Nat.beq ei.size sz=true)
 (hx:aQ tm x=some (.own id))(hid:getM mm id=some (.arr nn e' sz xs))(hi:aQ tm y=some (.c (.int kd m)))(hd:o.dst=some d)(hn:Nat.blt d n=true)(hg:aY L tm o=some true)
 (j:Nat)(hm:m=(j:Int))(hj:j < xs.length)(k:SOps C n L.toArray l ((d,.v (.one (.iH id j 0)))::bo tm d) mm T):SOps C n L.toArray (o::l) tm mm T:=
 cB (wj bt ho ht dO cM hx hid hi hm hj hd hn).wp hg k
theorem Nw{Θ:da}(bt:a8 C.P Θ){t:TypeId}{ti:fN}{x:Operand}{i j off e sz:Nat}{nn:Bool}{xs:List (List CT)}{ys:List CT}{s:SV}(cs:List CT)
 (ho:o.op=.load t x)(ht:aP Θ t=some ti)(hx:aQ tm x=some (.iH i j off))(hi:getM mm i=some (.arr nn e sz xs))(hj:xs[j]? =some cs)
 (hs:yd cs off ti.size=some ys)(hv:qd SC.c ti.agg ys=some s)(hd:o.dst=some d)(hn:Nat.blt d n=true)(hg:aY L tm o=some true)
 (k:SOps C n L.toArray l ((d,.v s)::bo tm d) mm T):SOps C n L.toArray (o::l) tm mm T:=
 cB (rT bt ho ht hx hi hj hs hv hd hn).wp hg k
end
section
variable {C:Ctx} {n:Nat} {tm cq:TM} {mm:MM} {L l:List Oper} {T:TM→Prop} {o:Oper} {d:Nat}
theorem Bn{Θ:da}(bt:a8 C.P Θ){t:TypeId}{x y:Operand}{id:Nat}{nn:Bool}{sz:Nat}{xs:List (List CT)}{kd:IntKind}{m:Int}{e e':Nat}{z cz:Nat}{ag:Bool}{zr:Option (List CT)}{ei:fN}
 (ho:o.op=.indexAddr t x y)(ht:aP Θ t=some ⟨z,cz,ag,zr,.slice e⟩)(dO:aP Θ e=some ei)(cM:Nat.beq ei.size sz=true)
 (hx:aQ (aX (aI L o) tm) x=some (.own id))(hid:getM mm id=some (.arr nn e' sz xs))(hi:aQ (aX (aI L o) tm) y=some (.c (.int kd m)))(hd:o.dst=some d)(hn:Nat.blt d n=true)(hg:aY L (aX (aI L o) tm) o=some true)
 (j:Nat)(hm:m=(j:Int))(hj:j < xs.length)(k:DOps C n mm L cq l ((d,.v (.one (.iH id j 0)))::bo tm d) T):DOps C n mm L cq (o::l) tm T:=
 mv (wj bt ho ht dO cM hx hid hi hm hj hd hn) hg k
theorem vz{Θ:da}(bt:a8 C.P Θ){t:TypeId}{ti:fN}{x:Operand}{i j off e sz:Nat}{nn:Bool}{xs:List (List CT)}{ys:List CT}{s:SV}(cs:List CT)
 (ho:o.op=.load t x)(ht:aP Θ t=some ti)(hx:aQ (aX (aI L o) tm) x=some (.iH i j off))(hi:getM mm i=some (.arr nn e sz xs))(hj:xs[j]? =some cs)
 (hs:yd cs off ti.size=some ys)(hv:qd SC.c ti.agg ys=some s)(hd:o.dst=some d)(hn:Nat.blt d n=true)(hg:aY L (aX (aI L o) tm) o=some true)
 (k:DOps C n mm L cq l ((d,.v s)::bo tm d) T):DOps C n mm L cq (o::l) tm T:=
 mv (rT bt ho ht hx hi hj hs hv hd hn) hg k
end
end Go.Sy
namespace Go.Sy
open Go.RowKit
section
variable {C:Ctx} {f:FuncId} {n:Nat} {R:Ending→World→Prop} {k:List Item} {tm:TM} {mm:MM} {L l:List Oper} {T:TM→MM→Prop}
def oB{α:Type}:List α→Nat→α→List α
 |[],_,_=>[]
 |_::l,0,x=>x::l
 |a::l,j+1,x=>a::oB l j x
theorem jq{α:Type}:∀(l:List α) (j:Nat) (x:α),oB l j x=l.set j x
 |[],_,_=>rfl
 |_::_,0,_=>rfl
 |a::l,j+1,x=>by simp[oB,jq l j x]
def s9:List SC→Nat→Option SC
 |[],_=>none
 |a::_,0=>some a
 |_::l,j+1=>s9 l j
theorem pJ:∀(l:List SC) (j:Nat),s9 l j=l[j]?
 |[],_=>by simp[s9]
 |_::_,0=>rfl
 |a::l,j+1=>by simpa[s9]using pJ l j
theorem Bj(i j:Nat){cs:List SC}{nn:Bool}{sz:Nat}{xs:List (List CT)}(hi:getM mm i=some (.box cs))(hj:s9 cs j=some (.c (.slice nn sz xs)))(g:xs.length≤9223372036854775807→Goes C f n R k tm mm):Goes C f n R k tm mm:=by
 intro a w hh
 obtain⟨H,Z,hm⟩:=hh
 rw[pJ]at hj
 obtain⟨b,ty,vs,h1,h2,h3,h4⟩:=hm.mem _ (aT hi)
 obtain⟨u,hu,ho,hr⟩:=h4 j _ hj
 have:=aV.KV hr
 exact g (dB this (by decide)) a w ⟨H,Z,hm⟩
def gB(ds:List Nat):TM→TM
 |[]=>[]
 |(t,s)::r=>match eV ds t with
  |true=>gB ds r
  |false=>(t,s)::gB ds r
theorem jG{ds:List Nat}{p:Nat×ST}:∀{l:TM},p∈gB ds l→p∈l
 |[],h=>by cases h
 |(t,s)::r,h=>by
  unfold gB at h
  split at h
  ·exact ab _ (jG h)
  ·rcases ae.1 h with rfl|h
   ·exact ah
   ·exact ab _ (jG h)
theorem O5{id:Nat}(mq:C.P.follows .mixedOrders=true)(b6:Ku L [] L 0=true)(hu:rD (bP L) (gB (bP L) tm)=true)
 (h:DOps C n mm L (gB (bP L) tm) L (gB (bP L) tm) (fun tm'=>Goes C f n R k tm' mm)):Goes C f n R (.code (.region id L.toArray true)::k) tm mm:=
 (SA mq b6 hu h).mono fun _ _ hh=>hh.kX fun _ hp=>jG hp
theorem L0{id:Nat}(mq:C.P.follows .mixedOrders=true)(b6:kV L [] L 0=true)(hu:rD (bP L) (gB (bP L) tm)=true)
 (h:EOps C n mm L (gB (bP L) tm) 0 L (gB (bP L) tm) [] (fun tm' mm'=>Goes C f n R k tm' mm')):Goes C f n R (.code (.region id L.toArray true)::k) tm mm:=
 (O4 mq b6 hu h).mono fun _ _ hh=>hh.kX fun _ hp=>jG hp
end
end Go.Sy
namespace Go.Sy
open Go.RowKit
def Hq(w:World)(M0:Nat→Prop)(cs:List CT)(e:Ending)(w':World):Prop:=
 ∃b ty us,e=.returned (.pointer (some ⟨b,0,none⟩))∧Ext (fun _=>False) w w'∧w.heap.size≤b∧w'.heap[b]? =some (.cells us ty (0,0))∧us.size=cs.length∧
  ∀(j:Nat) (c:CT),cs[j]? =some c→∃u:Value,us[j]? =some u∧aV w' (fun q=>M0 q∨q=b) u c
structure P2(P:Program)(f:FuncId)(args:List SV)(cs:List CT):Prop where
 ok:lG P f
 calls:∀(w:World) (M0:Nat→Prop) (H:Nat→Value) (Z:Nat→Nat) (vs:List Value),(∀b,M0 b→b < w.heap.size)→
  Pw (fun v s=>cu (cU []) H Z w M0 v s) vs args→Calls P f vs.toArray w (Hq w M0 cs)
section
variable {C:Ctx} {n:Nat} {tm:TM} {mm:MM} {o:Oper} {d:Nat} {L l:List Oper} {T:TM→MM→Prop}
theorem Kr{f:FuncId}{args:List SV}{cs:List CT}(hc:P2 C.P f args cs){xs:Array Operand}{ts:Array TypeId}
 (ho:o.op=.call {callee:=.value (.func f),args:=xs,argTypes:=ts})(cE:dr tm xs.toList=some args)(kI:kq [] args=some args)
 (hi:getM mm d=none)(hd:o.dst=some d)(hn:Nat.blt d n=true):
 PW C n o tm mm ((d,.v (.one (.ptr d 0)))::bo tm d) ((d,.box (cs.map SC.c))::mm):=by
 intro a w K Q ⟨H,Z,hm⟩ hK
 have FC:=gr hm cE
 have hI:∀i j,sV [] i=some j→cU mm j→cU [] i∧H i=H j:=fun i j h _=>by
  have:=(sU h).2;simp at this
 have OV:∀b,cO C H mm b→b < w.heap.size:=by
  rintro b (hb|⟨p,hp,c9⟩)
  ·exact ca (hm.m0 b hb) hm.ext.size
  ·exact(hm.fresh p hp b c9).2
 have xd:=hc.calls w (cO C H mm) H Z _ OV (pz hI (fun b _ h=>h) kI FC)
 unfold Oper.wp
 have dL:(execOp a.eval o).run C.P w=.ok (.enter f (xs.toList.map a.eval).toArray) w:=by
  have qY:xs.map a.eval=(xs.toList.map a.eval).toArray:=by simp[←cF]
  simp only[execOp,ho,resolve,qY,Deferred.ofValue,Act.eval,invoke,Sem.run_bind,Sem.run_pure,Result.andThen_ok,rA,jg,hc.ok w]
 rw[dL]
 show Calls _ _ _ _ _
 refine Calls.mono xd ?_
 rintro e w' ⟨b,ty,us,rfl,dy,hb,hh,hl,hr⟩
 refine hK _ _ ⟨Sy.jV H d (.pointer (some ⟨b,0,none⟩)),Sy.jV Z d 0,?_⟩
 rw[hd]
 have Fz:b < w'.heap.size:=(bd.1 hh).1
 refine hm.add (i:=d) (hv:=.pointer (some ⟨b,0,none⟩)) (z:=0) (o:=.box (cs.map SC.c)) (getM_none hi) (a6.mp hn) J dy ?_ ?_ ?_
 ·intro b' yw
  simp[Hb,hblk]at yw
  subst yw
  exact⟨hb,Fz⟩
 ·intro iP gb
  refine⟨b,ty,us,bm _ _ _,hh,by simpa using hl,fun j c hc=>?_⟩
  rw[az]at hc
  cases hq:cs[j]? with
  |none=>rw[hq]at hc;cases hc
  |some ct=>
   rw[hq]at hc;injection hc with hc;subst hc
   obtain⟨u,hu,cC⟩:=hr j ct hq
   refine⟨u,hu,cC.one,aV.mono cC (ay _) (fun _ _ _=>rfl) (fun q hq Xx=>?_)⟩
   rcases Xx with Xx|⟨p,hp,c9⟩
   ·exact .inl (.inl Xx)
   ·rcases ae.1 hp with rfl|hp
    ·rw[bm]at c9;simp[Hb,hblk]at c9;exact .inr c9.symm
    ·have cV:p.1≠d:=fun e=>getM_none hi ⟨p,hp,e⟩
     rw[bG _ _ cV]at c9
     exact .inl (.inr ⟨p,hp,c9⟩)
 ·exact⟨⟨_,ah,rfl⟩,b,by rw[bm];rfl,rfl⟩
end
theorem Pu{P:Program}{f:FuncId}{fn:Func}{c:Code}{args:List SV}{cs:List CT}
 (hf:P.funcs[f]? =some fn)(hb:fn.body=some c)(hn:Nat.ble args.length fn.ntmps=true)(RV:Nat.ble fn.ntmps given=true)(Eb:(fn.name=="runtime.NumGoroutine")=false)
 (h:∀(w:World) (M0:Nat→Prop) (H:Nat→Value),Goes ⟨P,w,M0,fun _=>False,H,fun _=>False,fun _ h=>h.elim⟩ f fn.ntmps (Hq w M0 cs) [.code c] (u6 0 args) []):P2 P f args cs:=by
 refine⟨my hf hb Eb,?_⟩
 intro w M0 H Z vs OV cE fs
 have hlen:vs.length=args.length:=cE.1
 let a:Act:={tmps:=vs.toArray++Array.replicate (fn.ntmps - vs.toArray.size) undef,defers:=[]}
 have hn:=gw.mp hn
 have dh:Mod ⟨P,w,M0,fun _=>False,H,fun _=>False,fun _ h=>h.elim⟩ H Z fn.ntmps (u6 0 args) [] a w:=by
  refine⟨rfl,by simp[a];omega,gw.mp RV,(fun p hp=>by cases hp),Ext.refl _ _,OV,(fun p hp=>by cases hp),(fun p hp=>by cases hp),(fun p hp=>by cases hp),(fun p hp=>by cases hp),?_⟩
  intro p hp
  obtain⟨j,s,rfl,hj⟩:=pj hp
  obtain⟨u,hu,hr⟩:=cE.2 j s hj
  have fg:j < vs.length:=(ai.1 hu).1
  have:a.tmps.getD (0+j) undef=u:=by
   have R2:vs[j]=u:=by
    have:=aa fg
    rw[hu]at this
    injection this with this;exact this.symm
   simp[a,db,nZ,fg,R2]
  rw[this]
  exact cu.mono hr (fun i _ hi=>⟨hi,rfl,rfl⟩) (ay _) (fun _ _ _=>rfl) (fun b _ hb=>by
   rcases hb with hb|⟨p,hp,_⟩
   ·exact hb
   ·cases hp)
 let b:Frame:={(default:Frame)with fn:=f,kind:=.normal}
 have q5:Frame.enter P f vs.toArray .normal=b.at a [.code c]:=by
  simp[Frame.enter,Frame.at,hf,hb,b,a]
 obtain⟨e,w',fr,h1,h2,h3,h4⟩:=h w M0 H a w ⟨H,Z,dh⟩ b fs J J
 rw[q5]
 exact⟨e,w',fr,h1,h2,h3,h4⟩
theorem Sz{P:Program}{w0:World}{M0:Nat→Prop}{f:FuncId}{n:Nat}{tm:TM}{mm:MM}{H:Nat→Value}{Θ:da}(bt:a8 P Θ)
 {fn:Func}(hf:P.funcs[f]? =some fn){i:Nat}{cs:List SC}{ct res:List CT}{t:List Item}(ht:t=[]∨∃k,t=.code .ret::k)
 (hr:uN Θ tm mm fn.results.toList=some [.one (.ptr i 0)])(hi:getM mm i=some (.box cs))(hg:Nat.blt i given=true)(hc:iG cs=some ct)(he:ct=res):
 Goes ⟨P,w0,M0,fun _=>False,H,fun _=>False,fun _ h=>h.elim⟩ f n (Hq w0 M0 res) t tm mm:=by
 subst he
 intro a w ⟨H',Z',hm⟩ b fs hb hk
 obtain⟨v,h1,h2⟩:=lY bt hm hr
 obtain⟨_,b0,sD,hv⟩:bS (cU mm) H' Z' w (cO ⟨P,w0,M0,fun _=>False,H,fun _=>False,fun _ h=>h.elim⟩ H' mm) v (.ptr i 0):=h2
 obtain⟨b1,ty,vs,g1,g2,g3,g4⟩:=hm.mem _ (aT hi)
 have Sf:b0=b1:=by
  rw[show H' i=_ from g1]at sD
  simp[Hb,hblk]at sD
  exact sD.symm
 subst Sf
 have gb:=(hm.fresh _ (aT hi) b0 (QO sD)).1
 have UM:w0.heap.size≤b0:=by
  rcases gb with⟨_,h|h⟩|⟨h,_⟩
  ·exact h
  ·exact h.elim
  ·have:=a6.mp hg
   simp only at h
   omega
 have RR:Pw (fun u c=>bS (cU mm) H' Z' w (cO ⟨P,w0,M0,fun _=>False,H,fun _=>False,fun _ h=>h.elim⟩ H' mm) u c) vs.toList cs:=
  ⟨by simpa using g3,fun j c hc=>let⟨u,hu,_,hr⟩:=g4 j c hc;⟨u,by simpa using hu,hr⟩⟩
 have xa:=iF hc RR
 have nM:Hq w0 M0 ct (.returned v) w:=by
  refine⟨b0,ty,vs,by rw[hv],hm.ext,UM,g2,by simpa using xa.1,fun j c hc=>?_⟩
  obtain⟨u,hu,cC⟩:=xa.2 j c hc
  refine⟨u,by simpa using hu,aV.mono cC (ay _) (fun _ _ _=>rfl) (fun q _ hq=>?_)⟩
  rcases hq with hq|rfl
  ·exact .inl hq
  ·exact .inr ⟨_,aT hi,QO sD⟩
 rcases ht with rfl|⟨k,rfl⟩
 ·exact⟨.returned v,w,_,nM,Steps.one step_end,hb,rfl,hm.defers,hk,fn,hb▸hf,h1⟩
 ·exact⟨.returned v,w,_,nM,Steps.one step_ret,hb,rfl,hm.defers,hk,fn,hb▸hf,h1⟩
end Go.Sy
