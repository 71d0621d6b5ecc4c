/- Symbolic states: maps whose values are structs: lookup, update. -/
import Derived.Test.YtdjocfajcbhmgaaGreatDoorSymZs
import Derived.Test.YtdjocfajcbhmgaaGreatDoorBu1
import Derived.MapKept
set_option linter.unusedSimpArgs false
set_option linter.unusedVariables false
set_option linter.unusedSectionVars false
namespace Go.Sy
open Go.RowKit
def Vu:FV→SV
 |.one c=>.one (.c c)
 |.agg cs=>.agg (qd.rZ SC.c cs)
theorem Aw{I:Nat→Prop}{H:Nat→Value}{Z:Nat→Nat}{w:World}{M:Nat→Prop}{v:Value}{c:FV}(h:iR w M v c):cu I H Z w M v (Vu c):=by
 cases c with
 |one c=>exact h
 |agg cs=>
  obtain⟨vs,h1,h2,h3⟩:=h
  refine⟨vs,h1,by rw[l7,ak];exact h2,fun j c hc=>?_⟩
  rw[l7,az]at hc
  cases hq:cs[j]? with
  |none=>rw[hq]at hc;cases hc
  |some c0=>
   rw[hq]at hc;injection hc with hc;subst hc
   exact h3 j c0 hq
theorem Ng{I:Nat→Prop}{H:Nat→Value}{Z:Nat→Nat}{w:World}{M:Nat→Prop}{v:Value}{cs:List CT}(h:cu I H Z w M v (.agg (qd.rZ SC.c cs))):iR w M v (.agg cs):=by
 obtain⟨vs,h1,h2,h3⟩:=h
 rw[l7]at h2 h3
 exact⟨vs,h1,by simpa using h2,fun j c hc=>h3 j (.c c) (by rw[az,hc];rfl)⟩
def mu{α:Type}(kf:α→FV)(m:List (α×FV)):List (FV×FV):=m.map fun q=>(kf q.1,q.2)
def FB{α:Type}[DecidableEq α](m:List (α×FV))(a:α):Bool:=(m.find? fun q=>decide (a=q.1)).isSome
def n4{α:Type}[DecidableEq α](m:List (α×FV))(a:α)(z:FV):FV:=
 match m.find? fun q=>decide (a=q.1)with
 |some q=>q.2
 |none=>z
def vT{α:Type}[DecidableEq α](m:List (α×FV))(a:α)(c:FV):List (α×FV):=
 match m.findIdx? fun q=>decide (a=q.1)with
 |some i=>m.set i (a,c)
 |none=>m++[(a,c)]
theorem tA{α:Type}{rep:α→Value}{kf:α→FV}(yu:∀(w:World) (M:Nat→Prop) (v:Value) (a:α),iR w M v (kf a)→v=rep a){w:World}{M:Nat→Prop}{m:List (α×FV)}{es:Array MapEntry}
 (hs:es.size=(mu kf m).length)(h:∀(j:Nat) (p:FV×FV),(mu kf m)[j]? =some p→∃en:MapEntry,es[j]? =some en∧iR w M en.key p.1∧iR w M en.val p.2):
 es.toList.map (·.key)=(m.map (·.1)).map rep:=by
 apply eh
 intro j
 rw[az,az,az]
 cases hm:m[j]? with
 |none=>
  have:es.toList[j]? =none:=by
   rw[gK]at hm⊢
   simp[mu]at hs
   simp;omega
  rw[this];rfl
 |some q=>
  obtain⟨en,h1,h2,_⟩:=h j (kf q.1,q.2) (by simp[mu,hm])
  have:es.toList[j]? =some en:=by simpa using h1
  rw[this]
  simp[yu _ _ _ _ h2]
section
variable {C:Ctx} {n:Nat} {tm:TM} {mm:MM} {o:Oper} {d:Nat} {α:Type} [DecidableEq α]
theorem tv{m:List (α×FV)}{a:α}:((m.map (·.1)).findIdx? fun b=>decide (a=b))=m.findIdx? fun q=>decide (a=q.1):=by
 rw[List.findIdx?_map];rfl
theorem EK{Θ:da}(bt:a8 C.P Θ){t k e:TypeId}{x y:Operand}{z cz:Nat}{ag:Bool}{zt:Option (List CT)}{ei:fN}{zc:List CT}{i:Nat}{rep:α→Value}{kf:α→FV}{m:List (α×FV)}{a0:α}{s:SV}
 (ho:o.op=.lookup t x y false)(ht:aP Θ t=some ⟨z,cz,ag,zt,.map k e⟩)(dO:aP Θ e=some ei)(hz:ei.zero=some zc)(yt:ei.agg=true)
 (hK:va C.P k rep)(yu:∀(w:World) (M:Nat→Prop) (v:Value) (a:α),iR w M v (kf a)→v=rep a)
 (hx:aQ tm x=some (.mp i))(hi:getM mm i=some (.fw (mu kf m)))(hy:cx tm y=some s)(hs:∀I H Z w M v,cu I H Z w M v s→v=rep a0)(hd:o.dst=some d)(hn:Nat.blt d n=true):
 ea C n o tm mm d (.v (Vu (n4 m a0 (.agg zc)))):=
 ea.val hd hn _ fun H Z a w hm=>by
  obtain⟨inf,de,hf⟩:=gI bt ht
  obtain⟨jK,qw,fK⟩:=gI bt dO
  obtain⟨zv,wV,qe,BD⟩:=fK.zero _ hz
  have jL:de=.map k e:=by
   have:=hf.sh
   cases de<;>simp[dA]at this⊢
   exact this
  subst jL
  obtain⟨_,hv⟩:=aU hm hx
  obtain⟨r,es,ck,h1,h2,h3,h4⟩:=hm.mem _ (aT hi)
  have hk:=hs _ _ _ _ _ _ (c8 hm hy)
  have ly:=tA yu h3 h4
  have dp:=hK.find a0 es.toList (m.map (·.1)) w (by simpa using ly)
  rw[tv]at dp
  have fy:(getObj r).run C.P w=.ok (.map es ck) w:=by simp[getObj,Sem.run,h2]
  have A3:=fK.zeroValue (w:=w) wV
  have wW:iR w (cO C H mm) zv (.agg zc):=by
   rw[yt]at qe
   cases zv with
   |agg vs=>
    obtain⟨q1,q2⟩:=mG (w:=w) (M:=cO C H mm) (show oq vs.toList zc=true from qe)
    exact⟨vs,rfl,by simpa using q1,fun j c hc=>let⟨u,hu,hr⟩:=q2 j c hc;⟨u,by simpa using hu,hr⟩⟩
   |_=>simp[BO]at qe
  cases oY:m.findIdx? fun q=>decide (a0=q.1)with
  |none=>
   have hl:n4 m a0 (.agg zc)=.agg zc:=by
    have:m.find? (fun q=>decide (a0=q.1))=none:=by
     rw[du]
     intro q hq
     rw[bx]at oY
     simp[oY q hq]
    simp[n4,this]
   rw[hl]
   refine⟨zv,?_,Aw wW⟩
   rw[oY]at dp
   simp only[execOp,ho,Instr.lookup,Sem.run_bind,hf.underlying,Result.andThen_ok,hv,h1,hk,fy,hK.Jh,Sem.run_pure]
   simp at dp
   simp[dp,A3,Sem.run_bind]
  |some j=>
   have oX:=oY
   rw[bh]at oX
   obtain⟨hj,GR,M6⟩:=oX
   have hl:n4 m a0 (.agg zc)=m[j].2:=by
    have:m.find? (fun q=>decide (a0=q.1))=some m[j]:=by
     rw[fl]
     exact⟨GR,j,hj,rfl,fun i hi=>by simpa using M6 i hi⟩
    simp[n4,this]
   rw[hl]
   obtain⟨en,g1,g2,g3⟩:=h4 j (kf m[j].1,m[j].2) (by simp[mu,hj])
   refine⟨en.val,?_,Aw g3⟩
   rw[oY]at dp
   have II:es.toList[j]? =some en:=by simpa using g1
   simp only[kE,II,dQ]at dp
   simp only[execOp,ho,Instr.lookup,Sem.run_bind,hf.underlying,Result.andThen_ok,hv,h1,hk,fy,hK.Jh,Sem.run_pure,dp]
   simp
theorem yg{Θ:da}(bt:a8 C.P Θ){t k e:TypeId}{x y vx:Operand}{z cz:Nat}{ag:Bool}{zt:Option (List CT)}{c:FV}{i:Nat}{rep:α→Value}{kf:α→FV}{m:List (α×FV)}{a0:α}{s:SV}
 (ho:o.op=.mapUpdate t x y vx∨o.op=.insert t x y vx)(ht:aP Θ t=some ⟨z,cz,ag,zt,.map k e⟩)
 (hK:va C.P k rep)(yu:∀(w:World) (M:Nat→Prop) (v:Value) (a:α),iR w M v (kf a)↔v=rep a)
 (hx:aQ tm x=some (.mp i))(hi:getM mm i=some (.fw (mu kf m)))(hy:cx tm y=some s)(hs:∀I H Z w M v,cu I H Z w M v s→v=rep a0)(C6:∀H Z a w,Mod C H Z n tm mm a w→iR w (cO C H mm) (a.eval vx) c)
 (hd:o.dst=none):xX C n o tm mm tm (cS mm i (.fw (mu kf (vT m a0 c)))):=by
 intro a w ⟨H,Z,hm⟩
 obtain⟨inf,de,hf⟩:=gI bt ht
 have jL:de=.map k e:=by
  have:=hf.sh
  cases de<;>simp[dA]at this⊢
  exact this
 subst jL
 obtain⟨_,hv⟩:=aU hm hx
 obtain⟨r,es,ck,h1,h2,h3,h4⟩:=hm.mem _ (aT hi)
 have hk:=hs _ _ _ _ _ _ (c8 hm hy)
 have uS:iR w (cO C H mm) (a.eval vx) c:=C6 _ _ _ _ hm
 have ly:=tA (fun w M v a h=>(yu w M v a).1 h) h3 h4
 have dp:=hK.find a0 es.toList (m.map (·.1)) w (by simpa using ly)
 rw[tv]at dp
 have XC:Hb (H i) r:=by rw[h1];rfl
 have BF:r < w.heap.size:=(bd.1 h2).1
 have fin:∀(Dw:Array MapEntry) (Px:Nat),(execOp a.eval o).run C.P w=.ok .skip {w with heap:=w.heap.setIfInBounds r (.map Dw Px)}→Dw.size=(mu kf (vT m a0 c)).length→
  (∀(j:Nat) (p:FV×FV),(mu kf (vT m a0 c))[j]? =some p→∃en:MapEntry,Dw[j]? =some en∧iR w (cO C H mm) en.key p.1∧iR w (cO C H mm) en.val p.2)→
  (∃v w',(execOp a.eval o).run C.P w=.ok (.value v) w'∧Has C n tm (cS mm i (.fw (mu kf (vT m a0 c)))) (a.put o.dst v) w')∨
  (∃w',(execOp a.eval o).run C.P w=.ok .skip w'∧Has C n tm (cS mm i (.fw (mu kf (vT m a0 c)))) (a.put o.dst undef) w'):=by
  intro Dw Px dL cM R7
  have dy:Ext (fun b=>b=r) w {w with heap:=w.heap.setIfInBounds r (.map Dw Px)}:=
   ⟨rfl,rfl,rfl,by simp,fun k _ cV=>by simp[ny (Ne.symm cV)]⟩
  refine .inr ⟨_,dL,H,Z,?_⟩
  rw[hd]
  refine hm.jV (b0:=r) ⟨_,aT hi,rfl⟩ XC dy hm.defers hm.size ?_ (fun p hp=>⟨hp,rfl⟩)
  intro iP gb
  refine⟨r,Dw,Px,h1,by simp[BF],cM,fun j p hp=>?_⟩
  obtain⟨en,q1,q2,q3⟩:=R7 j p hp
  exact⟨en,q1,q2.mono dy.size gb iP,q3.mono dy.size gb iP⟩
 cases oY:m.findIdx? fun q=>decide (a0=q.1)with
 |none=>
  rw[oY]at dp
  simp only[Option.bind_none]at dp
  have kK:vT m a0 c=m++[(a0,c)]:=by simp[vT,oY]
  refine fin (es.push {key:=rep a0,val:=a.eval vx,born:=ck}) (ck+1) ?_ ?_ ?_
  ·rcases ho with ho|ho<;>
    simp[execOp,ho,Instr.mapUpdate,Sem.run_bind,hf.underlying,hv,h1,hk,MapKept.run_getObj_map h2,hK.Jh,dp,MapKept.run_setObj_map _ h2,Result.andThen]
  ·rw[kK];simp[mu]at h3⊢;exact h3
  ·intro j p hp
   rw[kK]at hp
   simp only[mu,bg,bN,jd]at hp
   have Ft:es.size=(m.map fun q=>(kf q.1,q.2)).length:=h3
   rw[bX]at hp
   split at hp
   ·rename_i fg
    obtain⟨en,q1,q2⟩:=h4 j p hp
    exact⟨en,by rw[ql,if_neg (by omega)];exact q1,q2⟩
   ·rename_i fg
    have OM:j=es.size:=by
     have:=(ai.1 hp).1
     simp at this fg Ft
     omega
    subst OM
    rw[Ft,Nat.sub_self]at hp
    simp at hp
    subst hp
    refine⟨{key:=rep a0,val:=a.eval vx,born:=ck},by rw[ql,if_pos J],(yu _ _ _ _).2 J,?_⟩
    exact uS
 |some j=>
  have oX:=oY
  rw[bh]at oX
  obtain⟨hj,GR,M6⟩:=oX
  obtain⟨en,g1,g2,g3⟩:=h4 j (kf m[j].1,m[j].2) (by simp[mu,hj])
  have Iz:en.key=rep a0:=by
   rw[(yu _ _ _ _).1 g2]
   have:a0=m[j].1:=by simpa using GR
   rw[←this]
  rw[oY]at dp
  have II:es.toList[j]? =some en:=by simpa using g1
  simp only[kE,II,dQ]at dp
  have kK:vT m a0 c=m.set j (a0,c):=by simp[vT,oY]
  refine fin (es.modify j fun e=>{e with key:=rep a0,val:=a.eval vx}) ck ?_ ?_ ?_
  ·rcases ho with ho|ho<;>
    simp[execOp,ho,Instr.mapUpdate,Sem.run_bind,hf.underlying,hv,h1,hk,MapKept.run_getObj_map h2,hK.Jh,dp,g1,Iz,Instr.keyThatStays,hK.bits,MapKept.run_setObj_map _ h2,Result.andThen]
  ·rw[kK];simp[mu]at h3⊢;exact h3
  ·intro j' p hp
   rw[kK]at hp
   simp only[mu,az,cv]at hp
   by_cases A8:j=j'
   ·subst A8
    rw[if_pos J,if_pos hj]at hp
    simp at hp
    subst hp
    refine⟨{en with key:=rep a0,val:=a.eval vx},by rw[e7,if_pos J,g1];rfl,(yu _ _ _ _).2 J,?_⟩
    exact uS
   ·rw[if_neg A8]at hp
    obtain⟨XL,q1,q2⟩:=h4 j' p (by simpa[mu]using hp)
    exact⟨XL,by rw[e7,if_neg A8];exact q1,q2⟩
theorem AF{Θ:da}(bt:a8 C.P Θ){t k e:TypeId}{x y:Operand}{z cz:Nat}{ag:Bool}{zt:Option (List CT)}{ei:fN}{zc:List CT}{i:Nat}{rep:α→Value}{kf:α→FV}{m:List (α×FV)}{a0:α}{s:SV}
 (ho:o.op=.lookup t x y true)(ht:aP Θ t=some ⟨z,cz,ag,zt,.map k e⟩)(dO:aP Θ e=some ei)(hz:ei.zero=some zc)(yt:ei.agg=true)
 (hK:va C.P k rep)(yu:∀(w:World) (M:Nat→Prop) (v:Value) (a:α),iR w M v (kf a)→v=rep a)
 (hx:aQ tm x=some (.mp i))(hi:getM mm i=some (.fw (mu kf m)))(hy:cx tm y=some s)(hs:∀I H Z w M v,cu I H Z w M v s→v=rep a0)(hd:o.dst=some d)(hn:Nat.blt d n=true):
 ea C n o tm mm d (.fo [Vu (n4 m a0 (.agg zc)),.one (.c (.bool (FB m a0)))]):=
 ea.val hd hn _ fun H Z a w hm=>by
  have Da:∀(v:Value) (b:Bool) (c:FV),iR w (cO C H mm) v c→eK (cU mm) H Z w (cO C H mm) (.tuple #[v,.bool b]) (.fo [Vu c,.one (.c (.bool b))]):=by
   intro v b c hv
   refine⟨_,rfl,rfl,fun j s hs=>?_⟩
   match j,hs with
   |0,hs=>simp at hs;subst hs;exact⟨v,rfl,Aw hv⟩
   |1,hs=>simp at hs;subst hs;exact⟨.bool b,rfl,aV.bool b⟩
   |j+2,hs=>simp at hs
  obtain⟨inf,de,hf⟩:=gI bt ht
  obtain⟨jK,qw,fK⟩:=gI bt dO
  obtain⟨zv,wV,qe,BD⟩:=fK.zero _ hz
  have jL:de=.map k e:=by
   have:=hf.sh
   cases de<;>simp[dA]at this⊢
   exact this
  subst jL
  obtain⟨_,hv⟩:=aU hm hx
  obtain⟨r,es,ck,h1,h2,h3,h4⟩:=hm.mem _ (aT hi)
  have hk:=hs _ _ _ _ _ _ (c8 hm hy)
  have ly:=tA yu h3 h4
  have dp:=hK.find a0 es.toList (m.map (·.1)) w (by simpa using ly)
  rw[tv]at dp
  have fy:(getObj r).run C.P w=.ok (.map es ck) w:=by simp[getObj,Sem.run,h2]
  have A3:=fK.zeroValue (w:=w) wV
  have wW:iR w (cO C H mm) zv (.agg zc):=by
   rw[yt]at qe
   cases zv with
   |agg vs=>
    obtain⟨q1,q2⟩:=mG (w:=w) (M:=cO C H mm) (show oq vs.toList zc=true from qe)
    exact⟨vs,rfl,by simpa using q1,fun j c hc=>let⟨u,hu,hr⟩:=q2 j c hc;⟨u,by simpa using hu,hr⟩⟩
   |_=>simp[BO]at qe
  cases oY:m.findIdx? fun q=>decide (a0=q.1)with
  |none=>
   have Uz:m.find? (fun q=>decide (a0=q.1))=none:=by
    rw[du]
    intro q hq
    rw[bx]at oY
    simp[oY q hq]
   have hl:n4 m a0 (.agg zc)=.agg zc:=by simp[n4,Uz]
   have hb:FB m a0=false:=by simp[FB,Uz]
   rw[hl,hb]
   refine⟨.tuple #[zv,.bool false],?_,Da _ _ _ wW⟩
   rw[oY]at dp
   simp only[execOp,ho,Instr.lookup,Sem.run_bind,hf.underlying,Result.andThen_ok,hv,h1,hk,fy,hK.Jh,Sem.run_pure]
   simp at dp
   simp[dp,A3,Sem.run_bind]
  |some j=>
   have oX:=oY
   rw[bh]at oX
   obtain⟨hj,GR,M6⟩:=oX
   have Tr:m.find? (fun q=>decide (a0=q.1))=some m[j]:=by
    rw[fl]
    exact⟨GR,j,hj,rfl,fun i hi=>by simpa using M6 i hi⟩
   have hl:n4 m a0 (.agg zc)=m[j].2:=by simp[n4,Tr]
   have hb:FB m a0=true:=by simp[FB,Tr]
   rw[hl,hb]
   obtain⟨en,g1,g2,g3⟩:=h4 j (kf m[j].1,m[j].2) (by simp[mu,hj])
   refine⟨.tuple #[en.val,.bool true],?_,Da _ _ _ g3⟩
   rw[oY]at dp
   have II:es.toList[j]? =some en:=by simpa using g1
   simp only[kE,II,dQ]at dp
   simp only[execOp,ho,Instr.lookup,Sem.run_bind,hf.underlying,Result.andThen_ok,hv,h1,hk,fy,hK.Jh,Sem.run_pure,dp]
   simp
end
abbrev xB(q:Int×ByteArray):FV:=.agg [.int .i64 q.1,.str q.2]
abbrev lS:=List (ByteArray×(Int×ByteArray))
def qj(m:lS):List (FV×FV):=mu iC (m.map fun q=>(q.1,xB q.2))
def gz(m:lS)(a:ByteArray):Option (Int×ByteArray):=(m.find? fun q=>decide (a=q.1)).map (·.2)
def jz(m:lS)(a:ByteArray):Int×ByteArray:=(gz m a).getD (0,⟨#[]⟩)
def og(m:lS)(a:ByteArray)(c:Int×ByteArray):lS:=
 match m.findIdx? fun q=>decide (a=q.1)with
 |some i=>m.set i (a,c)
 |none=>m++[(a,c)]
theorem GC(m:lS)(a:ByteArray):n4 (m.map fun q=>(q.1,xB q.2)) a (.agg [.int .i64 0,.str ⟨#[]⟩])=xB (jz m a):=by
 unfold n4 jz gz
 rw[List.find?_map]
 cases h:m.find? ((fun q:ByteArray×FV=>decide (a=q.1)) ∘ fun q:ByteArray×(Int×ByteArray)=>(q.1,xB q.2))with
 |none=>
  have h':m.find? (fun q=>decide (a=q.1))=none:=h
  rw[h'];rfl
 |some q=>
  have h':m.find? (fun q=>decide (a=q.1))=some q:=h
  rw[h'];rfl
theorem Si(m:lS)(a:ByteArray):FB (m.map fun q=>(q.1,xB q.2)) a=(gz m a).isSome:=by
 unfold FB gz
 rw[List.find?_map,Option.isSome_map,Option.isSome_map];rfl
theorem Q6(m:lS)(a:ByteArray)(c:Int×ByteArray):vT (m.map fun q=>(q.1,xB q.2)) a (xB c)=(og m a c).map fun q=>(q.1,xB q.2):=by
 unfold vT og
 rw[List.findIdx?_map]
 cases h:m.findIdx? fun q=>decide (a=q.1)with
 |none=>
  have h':m.findIdx? ((fun q:ByteArray×FV=>decide (a=q.1)) ∘ fun q:ByteArray×(Int×ByteArray)=>(q.1,xB q.2))=none:=h
  rw[h'];simp
 |some i=>
  have h':m.findIdx? ((fun q:ByteArray×FV=>decide (a=q.1)) ∘ fun q:ByteArray×(Int×ByteArray)=>(q.1,xB q.2))=some i:=h
  rw[h'];simp
section
variable {C:Ctx} {n:Nat} {tm:TM} {mm:MM} {L l:List Oper} {T:TM→MM→Prop} {o:Oper} {d:Nat} {x y vx:Operand}
theorem EM{Θ:da}(bt:a8 C.P Θ){t k e:TypeId}{z cz zk bk ze be:Nat}{ag nt:Bool}{zt mF:Option (List CT)}{JD:Sh}{i:Nat}{m:lS}{a0:ByteArray}
 (ho:o.op=.lookup t x y true)(ht:aP Θ t=some ⟨z,cz,ag,zt,.map k e⟩)(hk:aP Θ k=some ⟨zk,bk,nt,mF,.string⟩)(dO:aP Θ e=some ⟨ze,be,true,some [.int .i64 0,.str ⟨#[]⟩],JD⟩)
 (hx:aQ tm x=some (.mp i))(hi:getM mm i=some (.fw (qj m)))(hy:cx tm y=some (.one (.c (.str a0))))(hd:o.dst=some d)(hn:Nat.blt d n=true):
 ea C n o tm mm d (.fo [.agg [.c (.int .i64 (jz m a0).1),.c (.str (jz m a0).2)],.one (.c (.bool (gz m a0).isSome))]):=by
 have h:=AF (n:=n) bt ho ht dO J J (lT bt hk) (fun w M v a h=>(iB w M v a).1 h) hx hi hy ko hd hn
 rw[GC,Si]at h
 exact h
theorem Kn{Θ:da}(bt:a8 C.P Θ){t k e:TypeId}{z cz zk bk ze be:Nat}{ag nt:Bool}{zt mF:Option (List CT)}{JD:Sh}{i:Nat}{m:lS}{a0:ByteArray}
 (ho:o.op=.lookup t x y false)(ht:aP Θ t=some ⟨z,cz,ag,zt,.map k e⟩)(hk:aP Θ k=some ⟨zk,bk,nt,mF,.string⟩)(dO:aP Θ e=some ⟨ze,be,true,some [.int .i64 0,.str ⟨#[]⟩],JD⟩)
 (hx:aQ tm x=some (.mp i))(hi:getM mm i=some (.fw (qj m)))(hy:cx tm y=some (.one (.c (.str a0))))(hd:o.dst=some d)(hn:Nat.blt d n=true):
 ea C n o tm mm d (.v (.agg [.c (.int .i64 (jz m a0).1),.c (.str (jz m a0).2)])):=by
 have h:=EK (n:=n) bt ho ht dO J J (lT bt hk) (fun w M v a h=>(iB w M v a).1 h) hx hi hy ko hd hn
 rw[GC]at h
 exact h
theorem NR{Θ:da}(bt:a8 C.P Θ){t k e:TypeId}{z cz zk bk:Nat}{ag nt:Bool}{zt mF:Option (List CT)}{i:Nat}{m:lS}{a0:ByteArray}{c:Int}{s:ByteArray}
 (ho:o.op=.mapUpdate t x y vx∨o.op=.insert t x y vx)(ht:aP Θ t=some ⟨z,cz,ag,zt,.map k e⟩)(hk:aP Θ k=some ⟨zk,bk,nt,mF,.string⟩)
 (hx:aQ tm x=some (.mp i))(hi:getM mm i=some (.fw (qj m)))(hy:cx tm y=some (.one (.c (.str a0))))(C6:cx tm vx=some (.agg [.c (.int .i64 c),.c (.str s)]))(hd:o.dst=none):
 xX C n o tm mm tm (cS mm i (.fw (qj (og m a0 (c,s))))):=by
 have h:=yg (n:=n) bt ho ht (lT bt hk) iB hx hi hy ko (c:=xB (c,s)) (fun H Z a w hm=>Ng (c8 hm C6)) hd
 rw[Q6]at h
 exact h
theorem yV{Θ:da}(bt:a8 C.P Θ){t k e:TypeId}{z cz zk bk ze be:Nat}{ag nt:Bool}{zt mF:Option (List CT)}{JD:Sh}{i:Nat}{m:lS}{a0:ByteArray}
 (ho:o.op=.lookup t x y true)(ht:aP Θ t=some ⟨z,cz,ag,zt,.map k e⟩)(hk:aP Θ k=some ⟨zk,bk,nt,mF,.string⟩)(dO:aP Θ e=some ⟨ze,be,true,some [.int .i64 0,.str ⟨#[]⟩],JD⟩)
 (hx:aQ tm x=some (.mp i))(hi:getM mm i=some (.fw (qj m)))(hy:cx tm y=some (.one (.c (.str a0))))(hd:o.dst=some d)(hn:Nat.blt d n=true)(hg:aY L tm o=some true)
 (g:SOps C n L.toArray l ((d,.fo [.agg [.c (.int .i64 (jz m a0).1),.c (.str (jz m a0).2)],.one (.c (.bool (gz m a0).isSome))])::bo tm d) mm T):SOps C n L.toArray (o::l) tm mm T:=
 cB (EM bt ho ht hk dO hx hi hy hd hn).wp hg g
theorem Nv{Θ:da}(bt:a8 C.P Θ){t k e:TypeId}{z cz zk bk ze be:Nat}{ag nt:Bool}{zt mF:Option (List CT)}{JD:Sh}{i:Nat}{m:lS}{a0:ByteArray}
 (ho:o.op=.lookup t x y false)(ht:aP Θ t=some ⟨z,cz,ag,zt,.map k e⟩)(hk:aP Θ k=some ⟨zk,bk,nt,mF,.string⟩)(dO:aP Θ e=some ⟨ze,be,true,some [.int .i64 0,.str ⟨#[]⟩],JD⟩)
 (hx:aQ tm x=some (.mp i))(hi:getM mm i=some (.fw (qj m)))(hy:cx tm y=some (.one (.c (.str a0))))(hd:o.dst=some d)(hn:Nat.blt d n=true)(hg:aY L tm o=some true)
 (g:SOps C n L.toArray l ((d,.v (.agg [.c (.int .i64 (jz m a0).1),.c (.str (jz m a0).2)]))::bo tm d) mm T):SOps C n L.toArray (o::l) tm mm T:=
 cB (Kn bt ho ht hk dO hx hi hy hd hn).wp hg g
theorem JK{Θ:da}(bt:a8 C.P Θ){t k e:TypeId}{z cz zk bk:Nat}{ag nt:Bool}{zt mF:Option (List CT)}{i:Nat}{m:lS}{a0:ByteArray}{c:Int}{s:ByteArray}
 (ho:o.op=.mapUpdate t x y vx∨o.op=.insert t x y vx)(ht:aP Θ t=some ⟨z,cz,ag,zt,.map k e⟩)(hk:aP Θ k=some ⟨zk,bk,nt,mF,.string⟩)
 (hx:aQ tm x=some (.mp i))(hi:getM mm i=some (.fw (qj m)))(hy:cx tm y=some (.one (.c (.str a0))))(C6:cx tm vx=some (.agg [.c (.int .i64 c),.c (.str s)]))(hd:o.dst=none)(hg:aY L tm o=some true)
 (g:SOps C n L.toArray l tm (cS mm i (.fw (qj (og m a0 (c,s))))) T):SOps C n L.toArray (o::l) tm mm T:=
 cB (NR (n:=n) bt ho ht hk hx hi hy C6 hd).wp hg g
end
end Go.Sy
