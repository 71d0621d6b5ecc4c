/- The symbolic layer, bundle Sy4. -/
import Derived.Test.YtdjocfajcbhmgaaGreatDoorSy3
import Derived.Laws.StructEq
import Derived.MapKept
set_option linter.unusedSimpArgs false
set_option linter.unusedVariables false
set_option linter.unusedSectionVars false
namespace Go.Sy
open Go.RowKit
structure C5(P:Program)(k:TypeId){α:Type}[DecidableEq α](rep:α→Value):Prop where
 Sc:∀em a w,(Instr.checkKey em 10000 k (rep a)).run P w=.ok () w
 find:∀(a:α) (es:List MapEntry) (m:List α) (w:World),es.map (·.key)=m.map rep→
  (Instr.findKey k (rep a) es).run P w=.ok ((m.findIdx? (fun b=>decide (a=b))).bind fun i=>(es[i]?).map fun e=>(i,e.val)) w
 bits:∀a,Instr.sameBits 10000 (rep a) (rep a)=true
end Go.Sy
namespace Go.Sy
open Go.RowKit
def gI{α:Type}(kf:α→FV)(m:List (α×CT)):List (FV×FV):=m.map fun q=>(kf q.1,.one q.2)
def iU{α:Type}[DecidableEq α](m:List (α×CT))(a:α)(z:CT):CT:=
 match m.find? fun q=>decide (a=q.1)with
 |some q=>q.2
 |none=>z
def mx{α:Type}[DecidableEq α](m:List (α×CT))(a:α)(c:CT):List (α×CT):=
 match m.findIdx? fun q=>decide (a=q.1)with
 |some i=>m.set i (a,c)
 |none=>m++[(a,c)]
theorem AU{α:Type}{rep:α→Value}{kf:α→FV}(Mn:∀(w:World) (M:Nat→Prop) (v:Value) (a:α),qR w M v (kf a)→v=rep a){w:World}{M:Nat→Prop}{m:List (α×CT)}{es:Array MapEntry}
 (hs:es.size=(gI kf m).length)(h:∀(j:Nat) (p:FV×FV),(gI kf m)[j]? =some p→∃en:MapEntry,es[j]? =some en∧qR w M en.key p.1∧qR w M en.val p.2):
 es.toList.map (·.key)=(m.map (·.1)).map rep:=by
 apply lM
 intro j
 rw[aI,aI,aI]
 cases hm:m[j]? with
 |none=>
  have:es.toList[j]? =none:=by
   rw[j5]at hm⊢
   simp[gI]at hs
   simp;omega
  rw[this];rfl
 |some q=>
  obtain⟨en,h1,h2,_⟩:=h j (kf q.1,.one q.2) (by simp[gI,hm])
  have:es.toList[j]? =some en:=by simpa using h1
  rw[this]
  simp[Mn _ _ _ _ h2]
section
variable {C:Ctx} {n:Nat} {tm:TM} {mm:MM} {o:Oper} {d:Nat} {α:Type} [DecidableEq α]
theorem AS{m:List (α×CT)}{a:α}:((m.map (·.1)).findIdx? fun b=>decide (a=b))=m.findIdx? fun q=>decide (a=q.1):=by
 rw[List.findIdx?_map];rfl
theorem wM{Θ:dD}(bI:bz C.P Θ){t k e:TypeId}{x y:Operand}{z dG:Nat}{ag:Bool}{zt:Option (List CT)}{ei:gD}{zc:CT}{i:Nat}{rep:α→Value}{kf:α→FV}{m:List (α×CT)}{a0:α}{s:SV}
 (ho:o.op=.lookup t x y false)(ht:aZ Θ t=some ⟨z,dG,ag,zt,.map k e⟩)(fm:aZ Θ e=some ei)(hz:ei.zero=some [zc])(KX:ei.agg=false)
 (hK:C5 C.P k rep)(Mn:∀(w:World) (M:Nat→Prop) (v:Value) (a:α),qR w M v (kf a)→v=rep a)
 (hx:aW tm x=some (.mp i))(hi:getM mm i=some (.lo (gI kf m)))(hy:dM tm y=some s)(hs:∀I H Z w M v,cF I H Z w M v s→v=rep a0)(hd:o.dst=some d)(hn:Nat.blt d n=true):
 eO C n o tm mm d (.v (.one (.c (iU m a0 zc)))):=
 eO.val hd hn _ fun H Z a w hm=>by
  obtain⟨inf,de,hf⟩:=jH bI ht
  obtain⟨lX,yU,iG⟩:=jH bI fm
  obtain⟨zv,Aw,vH,Cp⟩:=iG.zero _ hz
  have kZ:de=.map k e:=by
   have:=hf.sh
   cases de<;>simp[eR]at this⊢
   exact this
  subst kZ
  obtain⟨_,hv⟩:=aX hm hx
  obtain⟨r,es,ck,h1,h2,h3,h4⟩:=hm.mem _ (aN hi)
  have hk:=hs _ _ _ _ _ _ (ee hm hy)
  have uF:=AU Mn h3 h4
  have kK:=hK.find a0 es.toList (m.map (·.1)) w (by simpa using uF)
  rw[AS]at kK
  have jN:(getObj r).run C.P w=.ok (.map es ck) w:=by simp[getObj,Sem.run,h2]
  have FP:=iG.zeroValue (w:=w) Aw
  have P6:a7 w (cU C H mm) zv zc:=by
   obtain⟨q1,q2⟩:=e7 (w:=w) (M:=cU C H mm) vH
   obtain⟨u,hu,hr⟩:=q2 0 zc J
   rw[KX]at vH
   have:u=zv:=by
    cases zv<;>first|(simp[Value.cells]at hu;exact hu.symm)|(cases zc<;>simp[F7,r8,Db]at vH)
   rw[←this];exact hr
  cases Iq:m.findIdx? fun q=>decide (a0=q.1)with
  |none=>
   have hl:iU m a0 zc=zc:=by
    have:m.find? (fun q=>decide (a0=q.1))=none:=by
     rw[iD]
     intro q hq
     rw[bL]at Iq
     simp[Iq q hq]
    simp[iU,this]
   rw[hl]
   refine⟨zv,?_,P6⟩
   rw[Iq]at kK
   simp only[execOp,ho,Instr.lookup,Sem.run_bind,hf.underlying,Result.andThen_ok,hv,h1,hk,jN,hK.Sc,Sem.run_pure]
   simp at kK
   simp[kK,FP,Sem.run_bind]
  |some j=>
   have Ip:=Iq
   rw[bB]at Ip
   obtain⟨hj,Pt,Tr⟩:=Ip
   have hl:iU m a0 zc=m[j].2:=by
    have:m.find? (fun q=>decide (a0=q.1))=some m[j]:=by
     rw[List.find?_eq_some_iff_getElem]
     exact⟨Pt,j,hj,rfl,fun i hi=>by simpa using Tr i hi⟩
    simp[iU,this]
   rw[hl]
   obtain⟨en,g1,g2,g3⟩:=h4 j (kf m[j].1,.one m[j].2) (by simp[gI,hj])
   refine⟨en.val,?_,g3⟩
   rw[Iq]at kK
   have Re:es.toList[j]? =some en:=by simpa using g1
   simp only[Option.bind_some,Re,iI]at kK
   simp only[execOp,ho,Instr.lookup,Sem.run_bind,hf.underlying,Result.andThen_ok,hv,h1,hk,jN,hK.Sc,Sem.run_pure,kK]
   simp
theorem qi{Θ:dD}(bI:bz C.P Θ){t k e:TypeId}{x y vx:Operand}{z dG:Nat}{ag:Bool}{zt:Option (List CT)}{c:CT}{i:Nat}{rep:α→Value}{kf:α→FV}{m:List (α×CT)}{a0:α}{s:SV}
 (ho:o.op=.mapUpdate t x y vx∨o.op=.insert t x y vx)(ht:aZ Θ t=some ⟨z,dG,ag,zt,.map k e⟩)
 (hK:C5 C.P k rep)(Mn:∀(w:World) (M:Nat→Prop) (v:Value) (a:α),qR w M v (kf a)↔v=rep a)
 (hx:aW tm x=some (.mp i))(hi:getM mm i=some (.lo (gI kf m)))(hy:dM tm y=some s)(hs:∀I H Z w M v,cF I H Z w M v s→v=rep a0)(Qa:o6 tm vx=some (.one (.c c)))
 (hd:o.dst=none):yW C n o tm mm tm (cK mm i (.lo (gI kf (mx m a0 c)))):=by
 intro a w ⟨H,Z,hm⟩
 obtain⟨inf,de,hf⟩:=jH bI ht
 have kZ:de=.map k e:=by
  have:=hf.sh
  cases de<;>simp[eR]at this⊢
  exact this
 subst kZ
 obtain⟨_,hv⟩:=aX hm hx
 obtain⟨r,es,ck,h1,h2,h3,h4⟩:=hm.mem _ (aN hi)
 have hk:=hs _ _ _ _ _ _ (ee hm hy)
 have Ay:a7 w (cU C H mm) (a.eval vx) c:=rS hm Qa
 have uF:=AU (fun w M v a h=>(Mn w M v a).1 h) h3 h4
 have kK:=hK.find a0 es.toList (m.map (·.1)) w (by simpa using uF)
 rw[AS]at kK
 have WE:Hb (H i) r:=by rw[h1];rfl
 have Jx:r < w.heap.size:=(bu.1 h2).1
 have fin:∀(JG:Array MapEntry) (Sb:Nat),(execOp a.eval o).run C.P w=.ok .skip {w with heap:=w.heap.setIfInBounds r (.map JG Sb)}→JG.size=(gI kf (mx m a0 c)).length→
  (∀(j:Nat) (p:FV×FV),(gI kf (mx m a0 c))[j]? =some p→∃en:MapEntry,JG[j]? =some en∧qR w (cU C H mm) en.key p.1∧qR w (cU C H mm) en.val p.2)→
  (∃v w',(execOp a.eval o).run C.P w=.ok (.value v) w'∧Has C n tm (cK mm i (.lo (gI kf (mx m a0 c)))) (a.put o.dst v) w')∨
  (∃w',(execOp a.eval o).run C.P w=.ok .skip w'∧Has C n tm (cK mm i (.lo (gI kf (mx m a0 c)))) (a.put o.dst undef) w'):=by
  intro JG Sb dQ c8 TD
  have ec:Ext (fun b=>b=r) w {w with heap:=w.heap.setIfInBounds r (.map JG Sb)}:=
   ⟨rfl,rfl,rfl,by simp,fun k _ cj=>by simp[Array.getElem?_setIfInBounds_ne (Ne.symm cj)]⟩
  refine .inr ⟨_,dQ,H,Z,?_⟩
  rw[hd]
  refine hm.jf (b0:=r) ⟨_,aN hi,rfl⟩ WE ec hm.defers hm.size ?_ (fun p hp=>⟨hp,rfl⟩)
  intro iH iA
  refine⟨r,JG,Sb,h1,by simp[Jx],c8,fun j p hp=>?_⟩
  obtain⟨en,q1,q2,q3⟩:=TD j p hp
  exact⟨en,q1,q2.mono ec.size iA iH,q3.mono ec.size iA iH⟩
 cases Iq:m.findIdx? fun q=>decide (a0=q.1)with
 |none=>
  rw[Iq]at kK
  simp only[Option.bind_none]at kK
  have pB:mx m a0 c=m++[(a0,c)]:=by simp[mx,Iq]
  refine fin (es.push {key:=rep a0,val:=a.eval vx,born:=ck}) (ck+1) ?_ ?_ ?_
  ·rcases ho with ho|ho<;>
    simp[execOp,ho,Instr.mapUpdate,Sem.run_bind,hf.underlying,hv,h1,hk,MapKept.run_getObj_map h2,hK.Sc,kK,MapKept.run_setObj_map _ h2,Result.andThen]
  ·rw[pB];simp[gI]at h3⊢;exact h3
  ·intro j p hp
   rw[pB]at hp
   simp only[gI,a6,bF,gh]at hp
   have vJ:es.size=(m.map fun q=>(kf q.1,FV.one q.2)).length:=h3
   rw[bN]at hp
   split at hp
   ·rename_i eC
    obtain⟨en,q1,q2⟩:=h4 j p hp
    exact⟨en,by rw[Array.getElem?_push,if_neg (by omega)];exact q1,q2⟩
   ·rename_i eC
    have Of:j=es.size:=by
     have:=(ai.1 hp).1
     simp at this eC vJ
     omega
    subst Of
    rw[vJ,Nat.sub_self]at hp
    simp at hp
    subst hp
    refine⟨{key:=rep a0,val:=a.eval vx,born:=ck},by rw[Array.getElem?_push,if_pos J],(Mn _ _ _ _).2 J,?_⟩
    exact Ay
 |some j=>
  have Ip:=Iq
  rw[bB]at Ip
  obtain⟨hj,Pt,Tr⟩:=Ip
  obtain⟨en,g1,g2,g3⟩:=h4 j (kf m[j].1,.one m[j].2) (by simp[gI,hj])
  have Tl:en.key=rep a0:=by
   rw[(Mn _ _ _ _).1 g2]
   have:a0=m[j].1:=by simpa using Pt
   rw[←this]
  rw[Iq]at kK
  have Re:es.toList[j]? =some en:=by simpa using g1
  simp only[Option.bind_some,Re,iI]at kK
  have pB:mx m a0 c=m.set j (a0,c):=by simp[mx,Iq]
  refine fin (es.modify j fun e=>{e with key:=rep a0,val:=a.eval vx}) ck ?_ ?_ ?_
  ·rcases ho with ho|ho<;>
    simp[execOp,ho,Instr.mapUpdate,Sem.run_bind,hf.underlying,hv,h1,hk,MapKept.run_getObj_map h2,hK.Sc,kK,g1,Tl,Instr.keyThatStays,hK.bits,MapKept.run_setObj_map _ h2,Result.andThen]
  ·rw[pB];simp[gI]at h3⊢;exact h3
  ·intro j' p hp
   rw[pB]at hp
   simp only[gI,aI,cY]at hp
   by_cases Fi:j=j'
   ·subst Fi
    rw[if_pos J,if_pos hj]at hp
    simp at hp
    subst hp
    refine⟨{en with key:=rep a0,val:=a.eval vx},by rw[je,if_pos J,g1];rfl,(Mn _ _ _ _).2 J,?_⟩
    exact Ay
   ·rw[if_neg Fi]at hp
    obtain⟨WO,q1,q2⟩:=h4 j' p (by simpa[gI]using hp)
    exact⟨WO,by rw[je,if_neg Fi];exact q1,q2⟩
end
end Go.Sy
namespace Go.Sy
open Go.RowKit
section
variable {C:Ctx} {n:Nat} {tm:TM} {mm:MM} {L l:List Oper} {T:TM→MM→Prop} {o:Oper} {d:Nat}
theorem GB{Θ:dD}(bI:bz C.P Θ){t:TypeId}{x y:Operand}{id:Nat}{nn:Bool}{sz:Nat}{xs:List (List CT)}{kd:IntKind}{m:Int}{e e':Nat}{z dG:Nat}{ag:Bool}{zr:Option (List CT)}{ei:gD}
 (ho:o.op=.indexAddr t x y)(ht:aZ Θ t=some ⟨z,dG,ag,zr,.slice e⟩)(fm:aZ Θ e=some ei)(c8:Nat.beq ei.size sz=true)
 (hx:aW tm x=some (.own id))(hid:getM mm id=some (.arr nn e' sz xs))(hi:aW tm y=some (.c (.int kd m)))(hd:o.dst=some d)(hn:Nat.blt d n=true)(hg:bp L tm o=some true)
 (j:Nat)(hm:m=(j:Int))(hj:j < xs.length)(k:SOps C n L.toArray l ((d,.v (.one (.iu id j 0)))::bw tm d) mm T):SOps C n L.toArray (o::l) tm mm T:=
 dO (tW bI ho ht fm c8 hx hid hi hm hj hd hn).wp hg k
theorem Dp{Θ:dD}(bI:bz C.P Θ){t:TypeId}{ti:gD}{x:Operand}{i j off e sz:Nat}{nn:Bool}{xs:List (List CT)}{ys:List CT}{s:SV}(cs:List CT)
 (ho:o.op=.load t x)(ht:aZ Θ t=some ti)(hx:aW tm x=some (.iu i j off))(hi:getM mm i=some (.arr nn e sz xs))(hj:xs[j]? =some cs)
 (hs:vu cs off ti.size=some ys)(hv:qn SC.c ti.agg ys=some s)(hd:o.dst=some d)(hn:Nat.blt d n=true)(hg:bp L tm o=some true)
 (k:SOps C n L.toArray l ((d,.v s)::bw tm d) mm T):SOps C n L.toArray (o::l) tm mm T:=
 dO (qj bI ho ht hx hi hj hs hv hd hn).wp hg k
end
section
variable {C:Ctx} {n:Nat} {tm cp:TM} {mm:MM} {L l:List Oper} {T:TM→Prop} {o:Oper} {d:Nat}
theorem IV{Θ:dD}(bI:bz C.P Θ){t:TypeId}{x y:Operand}{id:Nat}{nn:Bool}{sz:Nat}{xs:List (List CT)}{kd:IntKind}{m:Int}{e e':Nat}{z dG:Nat}{ag:Bool}{zr:Option (List CT)}{ei:gD}
 (ho:o.op=.indexAddr t x y)(ht:aZ Θ t=some ⟨z,dG,ag,zr,.slice e⟩)(fm:aZ Θ e=some ei)(c8:Nat.beq ei.size sz=true)
 (hx:aW (bg (aK L o) tm) x=some (.own id))(hid:getM mm id=some (.arr nn e' sz xs))(hi:aW (bg (aK L o) tm) y=some (.c (.int kd m)))(hd:o.dst=some d)(hn:Nat.blt d n=true)(hg:bp L (bg (aK L o) tm) o=some true)
 (j:Nat)(hm:m=(j:Int))(hj:j < xs.length)(k:DOps C n mm L cp l ((d,.v (.one (.iu id j 0)))::bw tm d) T):DOps C n mm L cp (o::l) tm T:=
 mH (tW bI ho ht fm c8 hx hid hi hm hj hd hn) hg k
theorem D5{Θ:dD}(bI:bz C.P Θ){t:TypeId}{ti:gD}{x:Operand}{i j off e sz:Nat}{nn:Bool}{xs:List (List CT)}{ys:List CT}{s:SV}(cs:List CT)
 (ho:o.op=.load t x)(ht:aZ Θ t=some ti)(hx:aW (bg (aK L o) tm) x=some (.iu i j off))(hi:getM mm i=some (.arr nn e sz xs))(hj:xs[j]? =some cs)
 (hs:vu cs off ti.size=some ys)(hv:qn SC.c ti.agg ys=some s)(hd:o.dst=some d)(hn:Nat.blt d n=true)(hg:bp L (bg (aK L o) tm) o=some true)
 (k:DOps C n mm L cp l ((d,.v s)::bw tm d) T):DOps C n mm L cp (o::l) tm T:=
 mH (qj bI ho ht hx hi hj hs hv hd hn) hg k
end
end Go.Sy
namespace Go.Sy
open Go.RowKit
section
variable {C:Ctx} {f:FuncId} {n:Nat} {R:Ending→World→Prop} {k:List Item} {tm:TM} {mm:MM} {L l:List Oper} {T:TM→MM→Prop}
def mr{α:Type}:List α→Nat→α→List α
 |[],_,_=>[]
 |_::l,0,x=>x::l
 |a::l,j+1,x=>a::mr l j x
theorem ia{α:Type}:∀(l:List α) (j:Nat) (x:α),mr l j x=l.set j x
 |[],_,_=>rfl
 |_::_,0,_=>rfl
 |a::l,j+1,x=>by simp[mr,ia l j x]
def py:List SC→Nat→Option SC
 |[],_=>none
 |a::_,0=>some a
 |_::l,j+1=>py l j
theorem mB:∀(l:List SC) (j:Nat),py l j=l[j]?
 |[],_=>by simp[py]
 |_::_,0=>rfl
 |a::l,j+1=>by simpa[py]using mB l j
theorem yq(i j:Nat){cs:List SC}{nn:Bool}{sz:Nat}{xs:List (List CT)}(hi:getM mm i=some (.box cs))(hj:py cs j=some (.c (.slice nn sz xs)))(g:xs.length≤9223372036854775807→Goes C f n R k tm mm):Goes C f n R k tm mm:=by
 intro a w hh
 obtain⟨H,Z,hm⟩:=hh
 rw[mB]at hj
 obtain⟨b,ty,vs,h1,h2,h3,h4⟩:=hm.mem _ (aN hi)
 obtain⟨u,hu,ho,hr⟩:=h4 j _ hj
 have:=a7.HG hr
 exact g (dN this (by decide)) a w ⟨H,Z,hm⟩
def gJ(ds:List Nat):TM→TM
 |[]=>[]
 |(t,s)::r=>match fw ds t with
  |true=>gJ ds r
  |false=>(t,s)::gJ ds r
theorem jR{ds:List Nat}{p:Nat×ST}:∀{l:TM},p∈gJ ds l→p∈l
 |[],h=>by cases h
 |(t,s)::r,h=>by
  unfold gJ at h
  split at h
  ·exact ab _ (jR h)
  ·rcases ae.1 h with rfl|h
   ·exact ah
   ·exact ab _ (jR h)
theorem au{id:Nat}(mE:C.P.follows .mixedOrders=true)(b7:Hn L [] L 0=true)(hu:q5 (bV L) (gJ (bV L) tm)=true)
 (h:DOps C n mm L (gJ (bV L) tm) L (gJ (bV L) tm) (fun tm'=>Goes C f n R k tm' mm)):Goes C f n R (.code (.region id L.toArray true)::k) tm mm:=
 (OM mE b7 hu h).mono fun _ _ hh=>hh.lA fun _ hp=>jR hp
theorem ao{id:Nat}(mE:C.P.follows .mixedOrders=true)(b7:kX L [] L 0=true)(hu:q5 (bV L) (gJ (bV L) tm)=true)
 (h:EOps C n mm L (gJ (bV L) tm) 0 L (gJ (bV L) tm) [] (fun tm' mm'=>Goes C f n R k tm' mm')):Goes C f n R (.code (.region id L.toArray true)::k) tm mm:=
 (Lj mE b7 hu h).mono fun _ _ hh=>hh.lA fun _ hp=>jR hp
end
end Go.Sy
namespace Go.Sy
open Go.RowKit
def Eg(w:World)(M0:Nat→Prop)(cs:List CT)(e:Ending)(w':World):Prop:=
 ∃b ty us,e=.returned (.pointer (some ⟨b,0,none⟩))∧Ext (fun _=>False) w w'∧w.heap.size≤b∧w'.heap[b]? =some (.cells us ty (0,0))∧us.size=cs.length∧
  ∀(j:Nat) (c:CT),cs[j]? =some c→∃u:Value,us[j]? =some u∧a7 w' (fun q=>M0 q∨q=b) u c
structure L1(P:Program)(f:FuncId)(args:List SV)(cs:List CT):Prop where
 ok:kQ P f
 calls:∀(w:World) (M0:Nat→Prop) (H:Nat→Value) (Z:Nat→Nat) (vs:List Value),(∀b,M0 b→b < w.heap.size)→
  Pw (fun v s=>cF (cD []) H Z w M0 v s) vs args→Calls P f vs.toArray w (Eg w M0 cs)
section
variable {C:Ctx} {n:Nat} {tm:TM} {mm:MM} {o:Oper} {d:Nat} {L l:List Oper} {T:TM→MM→Prop}
theorem Hj{f:FuncId}{args:List SV}{cs:List CT}(hc:L1 C.P f args cs){xs:Array Operand}{ts:Array TypeId}
 (ho:o.op=.call {callee:=.value (.func f),args:=xs,argTypes:=ts})(cE:da tm xs.toList=some args)(iV:iO [] args=some args)
 (hi:getM mm d=none)(hd:o.dst=some d)(hn:Nat.blt d n=true):
 LW C n o tm mm ((d,.v (.one (.ptr d 0)))::bw tm d) ((d,.box (cs.map SC.c))::mm):=by
 intro a w K Q ⟨H,Z,hm⟩ hK
 have CF:=gz hm cE
 have hI:∀i j,rk [] i=some j→cD mm j→cD [] i∧H i=H j:=fun i j h _=>by
  have:=(rj h).2;simp at this
 have Oy:∀b,cU C H mm b→b < w.heap.size:=by
  rintro b (hb|⟨p,hp,cC⟩)
  ·exact bX (hm.m0 b hb) hm.ext.size
  ·exact(hm.fresh p hp b cC).2
 have uJ:=hc.calls w (cU C H mm) H Z _ Oy (og hI (fun b _ h=>h) iV CF)
 unfold Oper.wp
 have dQ:(execOp a.eval o).run C.P w=.ok (.enter f (xs.toList.map a.eval).toArray) w:=by
  have uC:xs.map a.eval=(xs.toList.map a.eval).toArray:=by simp[←dz]
  simp only[execOp,ho,resolve,uC,Deferred.ofValue,Act.eval,invoke,Sem.run_bind,Sem.run_pure,Result.andThen_ok,pU,kW,hc.ok w]
 rw[dQ]
 show Calls _ _ _ _ _
 refine Calls.mono uJ ?_
 rintro e w' ⟨b,ty,us,rfl,ec,hb,hh,hl,hr⟩
 refine hK _ _ ⟨Sy.jf H d (.pointer (some ⟨b,0,none⟩)),Sy.jf Z d 0,?_⟩
 rw[hd]
 have CD:b < w'.heap.size:=(bu.1 hh).1
 refine hm.add (i:=d) (hv:=.pointer (some ⟨b,0,none⟩)) (z:=0) (o:=.box (cs.map SC.c)) (getM_none hi) (aY.mp hn) J ec ?_ ?_ ?_
 ·intro b' pP
  simp[Hb,hblk]at pP
  subst pP
  exact⟨hb,CD⟩
 ·intro iH iA
  refine⟨b,ty,us,bc _ _ _,hh,by simpa using hl,fun j c hc=>?_⟩
  rw[aI]at hc
  cases hq:cs[j]? with
  |none=>rw[hq]at hc;cases hc
  |some ct=>
   rw[hq]at hc;injection hc with hc;subst hc
   obtain⟨u,hu,cL⟩:=hr j ct hq
   refine⟨u,hu,cL.one,a7.mono cL (aA _) (fun _ _ _=>rfl) (fun q hq T1=>?_)⟩
   rcases T1 with T1|⟨p,hp,cC⟩
   ·exact .inl (.inl T1)
   ·rcases ae.1 hp with rfl|hp
    ·rw[bc]at cC;simp[Hb,hblk]at cC;exact .inr cC.symm
    ·have cj:p.1≠d:=fun e=>getM_none hi ⟨p,hp,e⟩
     rw[bx _ _ cj]at cC
     exact .inl (.inr ⟨p,hp,cC⟩)
 ·exact⟨⟨_,ah,rfl⟩,b,by rw[bc];rfl,rfl⟩
end
theorem Lx{P:Program}{f:FuncId}{fn:Func}{c:Code}{args:List SV}{cs:List CT}
 (hf:P.funcs[f]? =some fn)(hb:fn.body=some c)(hn:Nat.ble args.length fn.ntmps=true)(N4:Nat.ble fn.ntmps given=true)(FW:(fn.name=="runtime.NumGoroutine")=false)
 (h:∀(w:World) (M0:Nat→Prop) (H:Nat→Value),Goes ⟨P,w,M0,fun _=>False,H,fun _=>False,fun _ h=>h.elim⟩ f fn.ntmps (Eg w M0 cs) [.code c] (sT 0 args) []):L1 P f args cs:=by
 refine⟨nR hf hb FW,?_⟩
 intro w M0 H Z vs Oy cE fs
 have hlen:vs.length=args.length:=cE.1
 let a:Act:={tmps:=vs.toArray++Array.replicate (fn.ntmps - vs.toArray.size) undef,defers:=[]}
 have hn:=fR.mp hn
 have dC:Mod ⟨P,w,M0,fun _=>False,H,fun _=>False,fun _ h=>h.elim⟩ H Z fn.ntmps (sT 0 args) [] a w:=by
  refine⟨rfl,by simp[a];omega,fR.mp N4,(fun p hp=>by cases hp),Ext.refl _ _,Oy,(fun p hp=>by cases hp),(fun p hp=>by cases hp),(fun p hp=>by cases hp),(fun p hp=>by cases hp),?_⟩
  intro p hp
  obtain⟨j,s,rfl,hj⟩:=nY hp
  obtain⟨u,hu,hr⟩:=cE.2 j s hj
  have eC:j < vs.length:=(ai.1 hu).1
  have:a.tmps.getD (0+j) undef=u:=by
   have Oc:vs[j]=u:=by
    have:=aa eC
    rw[hu]at this
    injection this with this;exact this.symm
   simp[a,cN,mL,eC,Oc]
  rw[this]
  exact cF.mono hr (fun i _ hi=>⟨hi,rfl,rfl⟩) (aA _) (fun _ _ _=>rfl) (fun b _ hb=>by
   rcases hb with hb|⟨p,hp,_⟩
   ·exact hb
   ·cases hp)
 let b:Frame:={(default:Frame)with fn:=f,kind:=.normal}
 have pC:Frame.enter P f vs.toArray .normal=b.at a [.code c]:=by
  simp[Frame.enter,Frame.at,hf,hb,b,a]
 obtain⟨e,w',fr,h1,h2,h3,h4⟩:=h w M0 H a w ⟨H,Z,dC⟩ b fs J J
 rw[pC]
 exact⟨e,w',fr,h1,h2,h3,h4⟩
theorem OK{P:Program}{w0:World}{M0:Nat→Prop}{f:FuncId}{n:Nat}{tm:TM}{mm:MM}{H:Nat→Value}{Θ:dD}(bI:bz P Θ)
 {fn:Func}(hf:P.funcs[f]? =some fn){i:Nat}{cs:List SC}{ct res:List CT}{t:List Item}(ht:t=[]∨∃k,t=.code .ret::k)
 (hr:sK Θ tm mm fn.results.toList=some [.one (.ptr i 0)])(hi:getM mm i=some (.box cs))(hg:Nat.blt i given=true)(hc:hJ cs=some ct)(he:ct=res):
 Goes ⟨P,w0,M0,fun _=>False,H,fun _=>False,fun _ h=>h.elim⟩ f n (Eg w0 M0 res) t tm mm:=by
 subst he
 intro a w ⟨H',Z',hm⟩ b fs hb hk
 obtain⟨v,h1,h2⟩:=lh bI hm hr
 obtain⟨_,b0,qU,hv⟩:bR (cD mm) H' Z' w (cU ⟨P,w0,M0,fun _=>False,H,fun _=>False,fun _ h=>h.elim⟩ H' mm) v (.ptr i 0):=h2
 obtain⟨b1,ty,vs,g1,g2,g3,g4⟩:=hm.mem _ (aN hi)
 have Ot:b0=b1:=by
  rw[show H' i=_ from g1]at qU
  simp[Hb,hblk]at qU
  exact qU.symm
 subst Ot
 have iA:=(hm.fresh _ (aN hi) b0 (MR qU)).1
 have R3:w0.heap.size≤b0:=by
  rcases iA with⟨_,h|h⟩|⟨h,_⟩
  ·exact h
  ·exact h.elim
  ·have:=aY.mp hg
   simp only at h
   omega
 have Qu:Pw (fun u c=>bR (cD mm) H' Z' w (cU ⟨P,w0,M0,fun _=>False,H,fun _=>False,fun _ h=>h.elim⟩ H' mm) u c) vs.toList cs:=
  ⟨by simpa using g3,fun j c hc=>let⟨u,hu,_,hr⟩:=g4 j c hc;⟨u,by simpa using hu,hr⟩⟩
 have yQ:=iZ hc Qu
 have uI:Eg w0 M0 ct (.returned v) w:=by
  refine⟨b0,ty,vs,by rw[hv],hm.ext,R3,g2,by simpa using yQ.1,fun j c hc=>?_⟩
  obtain⟨u,hu,cL⟩:=yQ.2 j c hc
  refine⟨u,by simpa using hu,a7.mono cL (aA _) (fun _ _ _=>rfl) (fun q _ hq=>?_)⟩
  rcases hq with hq|rfl
  ·exact .inl hq
  ·exact .inr ⟨_,aN hi,MR qU⟩
 rcases ht with rfl|⟨k,rfl⟩
 ·exact⟨.returned v,w,_,uI,Steps.one step_end,hb,rfl,hm.defers,hk,fn,hb▸hf,h1⟩
 ·exact⟨.returned v,w,_,uI,Steps.one step_ret,hb,rfl,hm.defers,hk,fn,hb▸hf,h1⟩
end Go.Sy
