/- Contracts of the reference, bundle Bu1. -/
import Derived.Test.YtdjocfajcbhmgaaGreatDoorSy8
set_option linter.unusedSimpArgs false
set_option linter.unusedVariables false
set_option linter.unusedSectionVars false
namespace Go.Sy
open Go.RowKit
section
variable {C:Ctx} {n:Nat} {tm:TM} {mm:MM} {o:Oper} {d:Nat} {x y:Operand} {ty rk:TypeId}
end
theorem Cz{α:Type}[DecidableEq α]{rep:α→Value}{kind:TypeDesc}(w4:∀a b,Instr.sameNow kind (rep a) (rep b)=some (decide (a=b)))(a:α):
 ∀(es:List MapEntry) (m:List α) (i:Nat),es.map (·.key)=m.map rep→
  Instr.findNow kind (rep a) es i=some ((m.findIdx? (fun b=>decide (a=b))).bind fun j=>(es[j]?).map fun x=>(j+i,x.val))
 |[],m,i,h=>by cases m<;>simp at h;simp[Instr.findNow]
 |x::es,[],i,h=>by simp at h
 |x::es,b::m,i,h=>by
  simp only[bN,List.cons.injEq]at h
  obtain⟨h1,h2⟩:=h
  rw[Instr.findNow,h1,w4]
  by_cases ur:a=b
  ·subst ur;simp[fk]
  ·have:=Cz w4 a es m (i+1) h2
   simp only[ur,decide_false,this,fk,cP,if_false]
   cases m.findIdx? fun b=>decide (a=b)with
   |none=>simp
   |some j=>
    have:j+(i+1)=j+1+i:=by omega
    simp[this]
theorem CR{P:Program}{k:TypeId}{ik:fN}{AZ:TypeInfo}{kind:TypeDesc}{α:Type}[DecidableEq α]{rep:α→Value}(hk:Bz P k ik AZ kind)
 (w4:∀a b,Instr.sameNow kind (rep a) (rep b)=some (decide (a=b)))(Xn:∀em a w,(Instr.checkKey em 10000 k (rep a)).run P w=.ok () w)(UR:∀a,Instr.sameBits 10000 (rep a) (rep a)=true):va P k rep:=by
 refine⟨Xn,fun a es m w hm=>?_,UR⟩
 unfold Instr.findKey
 simp only[Sem.run_bind,run_underlying hk.Aj,Result.andThen_ok]
 rw[Cz w4 a es m 0 hm]
 simp
theorem MA(a b:ByteArray):(a==b)=decide (a=b):=by
 obtain⟨x⟩:=a
 obtain⟨y⟩:=b
 have:(ByteArray.mk x==ByteArray.mk y)=(x==y):=rfl
 rw[this]
 by_cases h:x=y
 ·subst h;simp
 ·simp[h]
abbrev Ox(a:Int):Value:=.int .i64 a
abbrev Ni(s:ByteArray):Value:=.string s
abbrev tf(a:Int):FV:=.one (.int .i64 a)
abbrev iC(s:ByteArray):FV:=.one (.str s)
theorem K4{P:Program}{k:TypeId}{ik:fN}{AZ:TypeInfo}(hk:Bz P k ik AZ (.int .i64)):va P k Ox:=by
 refine CR hk (fun a b=>by simp[Instr.sameNow];rfl) (fun em a w=>?_) (fun a=>by simp[Instr.sameBits])
 rw[show(10000:Nat)=9999+1 from rfl,Instr.checkKey]
 simp[Sem.run_bind,run_underlying hk.Aj]
theorem JA{P:Program}{k:TypeId}{ik:fN}{AZ:TypeInfo}(hk:Bz P k ik AZ .string):va P k Ni:=by
 refine CR hk (fun a b=>?_) (fun em a w=>?_) (fun a=>by simp[Instr.sameBits,MA])
 ·show some (a==b)=some (decide (a=b))
  rw[MA]
 rw[show(10000:Nat)=9999+1 from rfl,Instr.checkKey]
 simp[Sem.run_bind,run_underlying hk.Aj]
theorem CW(w:World)(M:Nat→Prop)(v:Value)(a:Int):iR w M v (tf a)↔v=Ox a:=⟨fun h=>aV.cA h,fun h=>by subst h;exact aV.int _ _⟩
theorem iB(w:World)(M:Nat→Prop)(v:Value)(a:ByteArray):iR w M v (iC a)↔v=Ni a:=⟨fun h=>aV.fR h,fun h=>by subst h;exact aV.str _⟩
theorem F8{P:Program}{Θ:da}(bt:a8 P Θ){t:Nat}{z cz:Nat}{ag:Bool}{zt:Option (List CT)}(h:aP Θ t=some ⟨z,cz,ag,zt,.int .i64⟩):va P t Ox:=by
 obtain⟨inf,de,hf⟩:=gI bt h
 have h1:de=.int .i64:=by
  have:=hf.sh
  cases de<;>simp[dA]at this⊢
  exact this
 subst h1
 exact K4 hf
theorem lT{P:Program}{Θ:da}(bt:a8 P Θ){t:Nat}{z cz:Nat}{ag:Bool}{zt:Option (List CT)}(h:aP Θ t=some ⟨z,cz,ag,zt,.string⟩):va P t Ni:=by
 obtain⟨inf,de,hf⟩:=gI bt h
 have h1:de=.string:=by
  have:=hf.sh
  cases de<;>simp[dA]at this⊢
 subst h1
 exact JA hf
def Bd{α:Type}[DecidableEq α](m:List (α×CT))(a:α):Bool:=(m.find? fun q=>decide (a=q.1)).isSome
section
variable {C:Ctx} {n:Nat} {tm:TM} {mm:MM} {o:Oper} {d:Nat} {α:Type} [DecidableEq α]
theorem Co{Θ:da}(bt:a8 C.P Θ){t k e:TypeId}{x y:Operand}{z cz:Nat}{ag:Bool}{zt:Option (List CT)}{ei:fN}{zc:CT}{i:Nat}{rep:α→Value}{kf:α→FV}{m:List (α×CT)}{a0:α}{s:SV}
 (ho:o.op=.lookup t x y true)(ht:aP Θ t=some ⟨z,cz,ag,zt,.map k e⟩)(dO:aP Θ e=some ei)(hz:ei.zero=some [zc])(yt:ei.agg=false)
 (hK:va C.P k rep)(yu:∀(w:World) (M:Nat→Prop) (v:Value) (a:α),iR w M v (kf a)→v=rep a)
 (hx:aQ tm x=some (.mp i))(hi:getM mm i=some (.fw (dI kf m)))(hy:cx tm y=some s)(hs:∀I H Z w M v,cu I H Z w M v s→v=rep a0)(hd:o.dst=some d)(hn:Nat.blt d n=true):
 ea C n o tm mm d (.fo [.one (.c (dE m a0 zc)),.one (.c (.bool (Bd m a0)))]):=
 ea.val hd hn _ fun H Z a w hm=>by
  have Da:∀(v:Value) (b:Bool) (c:CT),aV w (cO C H mm) v c→eK (cU mm) H Z w (cO C H mm) (.tuple #[v,.bool b]) (.fo [.one (.c c),.one (.c (.bool b))]):=by
   intro v b c hv
   refine⟨_,rfl,rfl,fun j s hs=>?_⟩
   match j,hs with
   |0,hs=>simp at hs;subst hs;exact⟨v,rfl,hv⟩
   |1,hs=>simp at hs;subst hs;exact⟨.bool b,rfl,aV.bool b⟩
   |j+2,hs=>simp at hs
  obtain⟨inf,de,hf⟩:=gI bt ht
  obtain⟨jK,qw,fK⟩:=gI bt dO
  obtain⟨zv,wV,qe,BD⟩:=fK.zero _ hz
  have jL:de=.map k e:=by
   have:=hf.sh
   cases de<;>simp[dA]at this⊢
   exact this
  subst jL
  obtain⟨_,hv⟩:=aU hm hx
  obtain⟨r,es,ck,h1,h2,h3,h4⟩:=hm.mem _ (aT hi)
  have hk:=hs _ _ _ _ _ _ (c8 hm hy)
  have ly:=xp yu h3 h4
  have dp:=hK.find a0 es.toList (m.map (·.1)) w (by simpa using ly)
  rw[xn]at dp
  have fy:(getObj r).run C.P w=.ok (.map es ck) w:=by simp[getObj,Sem.run,h2]
  have A3:=fK.zeroValue (w:=w) wV
  have wW:aV w (cO C H mm) zv zc:=by
   obtain⟨q1,q2⟩:=e8 (w:=w) (M:=cO C H mm) qe
   obtain⟨u,hu,hr⟩:=q2 0 zc J
   rw[yt]at qe
   have:u=zv:=by
    cases zv<;>first|(simp[Value.cells]at hu;exact hu.symm)|(cases zc<;>simp[BO,oq,BN]at qe)
   rw[←this];exact hr
  cases oY:m.findIdx? fun q=>decide (a0=q.1)with
  |none=>
   have Uz:m.find? (fun q=>decide (a0=q.1))=none:=by
    rw[du]
    intro q hq
    rw[bx]at oY
    simp[oY q hq]
   have hl:dE m a0 zc=zc:=by simp[dE,Uz]
   have hb:Bd m a0=false:=by simp[Bd,Uz]
   rw[hl,hb]
   refine⟨.tuple #[zv,.bool false],?_,Da _ _ _ wW⟩
   rw[oY]at dp
   simp only[execOp,ho,Instr.lookup,Sem.run_bind,hf.underlying,Result.andThen_ok,hv,h1,hk,fy,hK.Jh,Sem.run_pure]
   simp at dp
   simp[dp,A3,Sem.run_bind]
  |some j=>
   have oX:=oY
   rw[bh]at oX
   obtain⟨hj,GR,M6⟩:=oX
   have Tr:m.find? (fun q=>decide (a0=q.1))=some m[j]:=by
    rw[fl]
    exact⟨GR,j,hj,rfl,fun i hi=>by simpa using M6 i hi⟩
   have hl:dE m a0 zc=m[j].2:=by simp[dE,Tr]
   have hb:Bd m a0=true:=by simp[Bd,Tr]
   rw[hl,hb]
   obtain⟨en,g1,g2,g3⟩:=h4 j (kf m[j].1,.one m[j].2) (by simp[dI,hj])
   refine⟨.tuple #[en.val,.bool true],?_,Da _ _ _ g3⟩
   rw[oY]at dp
   have II:es.toList[j]? =some en:=by simpa using g1
   simp only[kE,II,dQ]at dp
   simp only[execOp,ho,Instr.lookup,Sem.run_bind,hf.underlying,Result.andThen_ok,hv,h1,hk,fy,hK.Jh,Sem.run_pure,dp]
   simp
end
section
variable {C:Ctx} {n:Nat} {tm:TM} {mm:MM} {o:Oper} {d:Nat} {x y:Operand}
theorem CU{a:Int}(I:Nat→Prop)(H:Nat→Value)(Z:Nat→Nat)(w:World)(M:Nat→Prop)(v:Value)(h:cu I H Z w M v (.one (.c (.int .i64 a)))):v=Ox a:=aV.cA h
theorem ko{a:ByteArray}(I:Nat→Prop)(H:Nat→Value)(Z:Nat→Nat)(w:World)(M:Nat→Prop)(v:Value)(h:cu I H Z w M v (.one (.c (.str a)))):v=Ni a:=aV.fR h
theorem Cp{Θ:da}(bt:a8 C.P Θ){t k e:TypeId}{z cz zk bk:Nat}{ag nt:Bool}{zt mF:Option (List CT)}{ei:fN}{zc:CT}{i:Nat}{m:List (Int×CT)}{a0:Int}
 (ho:o.op=.lookup t x y false)(ht:aP Θ t=some ⟨z,cz,ag,zt,.map k e⟩)(hk:aP Θ k=some ⟨zk,bk,nt,mF,.int .i64⟩)(dO:aP Θ e=some ei)(hz:ei.zero=some [zc])(yt:ei.agg=false)
 (hx:aQ tm x=some (.mp i))(hi:getM mm i=some (.fw (dI tf m)))(hy:cx tm y=some (.one (.c (.int .i64 a0))))(hd:o.dst=some d)(hn:Nat.blt d n=true):ea C n o tm mm d (.v (.one (.c (dE m a0 zc)))):=
 pE bt ho ht dO hz yt (F8 bt hk) (fun w M v a h=>(CW w M v a).1 h) hx hi hy CU hd hn
theorem EL{Θ:da}(bt:a8 C.P Θ){t k e:TypeId}{z cz zk bk:Nat}{ag nt:Bool}{zt mF:Option (List CT)}{ei:fN}{zc:CT}{i:Nat}{m:List (ByteArray×CT)}{a0:ByteArray}
 (ho:o.op=.lookup t x y true)(ht:aP Θ t=some ⟨z,cz,ag,zt,.map k e⟩)(hk:aP Θ k=some ⟨zk,bk,nt,mF,.string⟩)(dO:aP Θ e=some ei)(hz:ei.zero=some [zc])(yt:ei.agg=false)
 (hx:aQ tm x=some (.mp i))(hi:getM mm i=some (.fw (dI iC m)))(hy:cx tm y=some (.one (.c (.str a0))))(hd:o.dst=some d)(hn:Nat.blt d n=true):ea C n o tm mm d (.fo [.one (.c (dE m a0 zc)),.one (.c (.bool (Bd m a0)))]):=
 Co bt ho ht dO hz yt (lT bt hk) (fun w M v a h=>(iB w M v a).1 h) hx hi hy ko hd hn
end
section
variable {C:Ctx} {n:Nat} {tm:TM} {mm:MM} {L l:List Oper} {T:TM→MM→Prop} {o:Oper} {d:Nat} {x y vx:Operand}
theorem Ap{Θ:da}(bt:a8 C.P Θ){t k e:TypeId}{z cz zk bk:Nat}{ag nt:Bool}{zt mF:Option (List CT)}{c:CT}{i:Nat}{m:List (Int×CT)}{a0:Int}
 (ho:o.op=.mapUpdate t x y vx∨o.op=.insert t x y vx)(ht:aP Θ t=some ⟨z,cz,ag,zt,.map k e⟩)(hk:aP Θ k=some ⟨zk,bk,nt,mF,.int .i64⟩)
 (hx:aQ tm x=some (.mp i))(hi:getM mm i=some (.fw (dI tf m)))(hy:cx tm y=some (.one (.c (.int .i64 a0))))(C6:na tm vx=some (.one (.c c)))(hd:o.dst=none)(hg:aY L tm o=some true)
 (g:SOps C n L.toArray l tm (cS mm i (.fw (dI tf (iq m a0 c)))) T):SOps C n L.toArray (o::l) tm mm T:=
 cB (kU (n:=n) bt ho ht (F8 bt hk) CW hx hi hy CU C6 hd).wp hg g
theorem Et{Θ:da}(bt:a8 C.P Θ){t k e:TypeId}{z cz zk bk:Nat}{ag nt:Bool}{zt mF:Option (List CT)}{c:CT}{i:Nat}{m:List (ByteArray×CT)}{a0:ByteArray}
 (ho:o.op=.mapUpdate t x y vx∨o.op=.insert t x y vx)(ht:aP Θ t=some ⟨z,cz,ag,zt,.map k e⟩)(hk:aP Θ k=some ⟨zk,bk,nt,mF,.string⟩)
 (hx:aQ tm x=some (.mp i))(hi:getM mm i=some (.fw (dI iC m)))(hy:cx tm y=some (.one (.c (.str a0))))(C6:na tm vx=some (.one (.c c)))(hd:o.dst=none)(hg:aY L tm o=some true)
 (g:SOps C n L.toArray l tm (cS mm i (.fw (dI iC (iq m a0 c)))) T):SOps C n L.toArray (o::l) tm mm T:=
 cB (kU (n:=n) bt ho ht (lT bt hk) iB hx hi hy ko C6 hd).wp hg g
end
section
variable {C:Ctx} {n:Nat} {tm:TM} {mm:MM} {o:Oper} {d:Nat} {x:Operand}
end
section
variable {C:Ctx} {n:Nat} {tm:TM} {mm:MM} {o:Oper} {x y:Operand}
end
section
variable {C:Ctx} {n:Nat} {tm:TM} {mm:MM} {L l:List Oper} {T:TM→MM→Prop} {o:Oper} {d:Nat} {x y:Operand} {ty rk:TypeId}
theorem Gh{a b:ByteArray}(ho:o.op=.binOp .add ty x y rk)(hx:aQ tm x=some (.c (.str a)))(hy:aQ tm y=some (.c (.str b)))(hd:o.dst=some d)(hn:Nat.blt d n=true)(hg:aY L tm o=some true)
 (hr:a.size+b.size≤9223372036854775807)(k:SOps C n L.toArray l ((d,.v (.one (.c (.str (a++b)))))::bo tm d) mm T):SOps C n L.toArray (o::l) tm mm T:=
 cB (N1 ho hx hy hr hd hn).wp hg k
end
section
variable {C:Ctx} {n:Nat} {tm cq:TM} {mm:MM} {L l:List Oper} {T:TM→Prop} {o:Oper} {d:Nat} {x y:Operand} {ty rk:TypeId}
end
section
variable {α:Type} [DecidableEq α]
def yl:Nat→List α→List (α×CT)
 |_,[]=>[]
 |k,a::l=>(a,.int .i64 (k:Int))::yl (k+1) l
def lM(l:List α):List (α×CT):=yl 0 l
theorem Kz(l:List α)(a:α):∀k,yl k (l++[a])=yl k l++[(a,.int .i64 ((k+l.length:Nat):Int))]:=by
 induction l with
 |nil=>intro k;simp[yl]
 |cons b l ih=>
  intro k
  simp only[cH,yl,ih,cd]
  rw[show k+1+l.length=k+(l.length+1) by omega]
theorem s8(a:α)(l:List α):∀k,(yl k l).find? (fun q=>decide (a=q.1))=if a∈l then some (a,.int .i64 ((k+l.idxOf a:Nat):Int))else none:=by
 induction l with
 |nil=>intro k;simp[yl]
 |cons b l ih=>
  intro k
  by_cases h:a=b
  ·subst h;simp[yl]
  ·have hb:(b==a)=false:=by simpa using fun e:b=a=>h e.symm
   rw[yl,List.find?_cons]
   simp only[h,decide_false,ih,ae,false_or,qb,hb,cond_false]
   split
   ·rw[show k+1+l.idxOf a=k+(l.idxOf a+1) by omega]
   ·rfl
def EV(l:List α)(a:α):Nat:=if a∈l then l.idxOf a else 0
theorem Cw(l:List α)(a:α):dE (lM l) a (.int .i64 0)=.int .i64 ((EV l a:Nat):Int):=by
 unfold dE lM
 rw[s8,EV]
 by_cases h:a∈l<;>simp[h]
theorem N4(l:List α)(a:α):Bd (lM l) a=decide (a∈l):=by
 unfold Bd lM
 rw[s8]
 by_cases h:a∈l<;>simp[h]
theorem Gt{l:List α}{a:α}(h:a∉l):iq (lM l) a (.int .i64 (l.length:Int))=lM (l++[a]):=by
 have hn:(lM l).findIdx? (fun q=>decide (a=q.1))=none:=by
  have:=s8 a l 0
  rw[if_neg h]at this
  rw[bx]
  intro q hq
  have:=du.1 this q hq
  simpa using this
 unfold iq
 rw[hn]
 simp only
 rw[lM,lM,Kz,fq]
end
section
variable {C:Ctx} {n:Nat} {tm:TM} {mm:MM} {L l:List Oper} {T:TM→MM→Prop} {o:Oper} {d:Nat} {x y:Operand}
theorem Aq{Θ:da}(bt:a8 C.P Θ){t k e:TypeId}{z cz zk bk:Nat}{ag nt:Bool}{zt mF:Option (List CT)}{ei:fN}{zc:CT}{i:Nat}{m:List (Int×CT)}{a0:Int}
 (ho:o.op=.lookup t x y false)(ht:aP Θ t=some ⟨z,cz,ag,zt,.map k e⟩)(hk:aP Θ k=some ⟨zk,bk,nt,mF,.int .i64⟩)(dO:aP Θ e=some ei)(hz:ei.zero=some [zc])(yt:ei.agg=false)
 (hx:aQ tm x=some (.mp i))(hi:getM mm i=some (.fw (dI tf m)))(hy:cx tm y=some (.one (.c (.int .i64 a0))))(hd:o.dst=some d)(hn:Nat.blt d n=true)(hg:aY L tm o=some true)
 (g:SOps C n L.toArray l ((d,.v (.one (.c (dE m a0 zc))))::bo tm d) mm T):SOps C n L.toArray (o::l) tm mm T:=
 cB (Cp bt ho ht hk dO hz yt hx hi hy hd hn).wp hg g
theorem vc{Θ:da}(bt:a8 C.P Θ){t k e:TypeId}{z cz zk bk:Nat}{ag nt:Bool}{zt mF:Option (List CT)}{ei:fN}{zc:CT}{i:Nat}{m:List (ByteArray×CT)}{a0:ByteArray}
 (ho:o.op=.lookup t x y false)(ht:aP Θ t=some ⟨z,cz,ag,zt,.map k e⟩)(hk:aP Θ k=some ⟨zk,bk,nt,mF,.string⟩)(dO:aP Θ e=some ei)(hz:ei.zero=some [zc])(yt:ei.agg=false)
 (hx:aQ tm x=some (.mp i))(hi:getM mm i=some (.fw (dI iC m)))(hy:cx tm y=some (.one (.c (.str a0))))(hd:o.dst=some d)(hn:Nat.blt d n=true)(hg:aY L tm o=some true)
 (g:SOps C n L.toArray l ((d,.v (.one (.c (dE m a0 zc))))::bo tm d) mm T):SOps C n L.toArray (o::l) tm mm T:=
 cB (pE bt ho ht dO hz yt (lT bt hk) (fun w M v a h=>(iB w M v a).1 h) hx hi hy ko hd hn).wp hg g
end
section
variable {α:Type} [DecidableEq α]
abbrev qJ(l:List α):List (α×CT):=l.map fun a=>(a,CT.bool true)
theorem HF{l:List α}{a:α}:(qJ l).find? (fun q=>decide (a=q.1))=if a∈l then some (a,.bool true)else none:=by
 induction l with
 |nil=>simp
 |cons b l ih=>
  simp only[qJ,bN,List.find?_cons]
  by_cases h:a=b
  ·subst h;simp
  ·simp only[h,decide_false,ae,false_or];exact ih
theorem yU(l:List α)(a:α):dE (qJ l) a (.bool false)=.bool (decide (a∈l)):=by
 unfold dE
 rw[HF]
 by_cases h:a∈l<;>simp[h]
theorem BZ{l:List α}{a:α}(h:a∉l):iq (qJ l) a (.bool true)=qJ (l++[a]):=by
 have hn:(qJ l).findIdx? (fun q=>decide (a=q.1))=none:=by
  rw[bx]
  intro q hq
  obtain⟨b,hb,rfl⟩:=aL.1 hq
  simp only[decide_eq_false_iff_not]
  rintro rfl;exact h hb
 unfold iq
 rw[hn]
 simp
end
end Go.Sy
namespace Go.Sy
open Go.RowKit
set_option maxRecDepth 100000
attribute [local irreducible] SOps Goes DOps EOps
def ks{α:Type}[DecidableEq α](l:List α)(a:α):Bool:=decide (a∈l)
section
variable {C:Ctx} {n:Nat} {tm:TM} {mm:MM} {L l:List Oper} {T:TM→MM→Prop} {o:Oper} {d:Nat} {x y vx:Operand}
theorem Ky{α:Type}[DecidableEq α](l:List α)(a:α):Bd (lM l) a=ks l a:=N4 l a
theorem JO{Θ:da}(bt:a8 C.P Θ){t k e:TypeId}{z cz zk bk ze be:Nat}{ag nt:Bool}{zt mF:Option (List CT)}{JD:Sh}{i:Nat}{m:List ByteArray}{a0:ByteArray}
 (ho:o.op=.lookup t x y true)(ht:aP Θ t=some ⟨z,cz,ag,zt,.map k e⟩)(hk:aP Θ k=some ⟨zk,bk,nt,mF,.string⟩)(dO:aP Θ e=some ⟨ze,be,false,some [.int .i64 0],JD⟩)
 (hx:aQ tm x=some (.mp i))(hi:getM mm i=some (.fw (dI iC (lM m))))(hy:cx tm y=some (.one (.c (.str a0))))(hd:o.dst=some d)(hn:Nat.blt d n=true)(hg:aY L tm o=some true)
 (g:SOps C n L.toArray l ((d,.fo [.one (.c (.int .i64 ((EV m a0:Nat):Int))),.one (.c (.bool (ks m a0)))])::bo tm d) mm T):SOps C n L.toArray (o::l) tm mm T:=by
 have h:=EL (n:=n) (zc:=.int .i64 0) bt ho ht hk dO J J hx hi hy hd hn
 rw[Cw,Ky]at h
 exact cB h.wp hg g
theorem Ns{Θ:da}(bt:a8 C.P Θ){t k e:TypeId}{z cz zk bk:Nat}{ag nt:Bool}{zt mF:Option (List CT)}{i:Nat}{m:List ByteArray}{a0:ByteArray}{c:Int}
 (ho:o.op=.mapUpdate t x y vx∨o.op=.insert t x y vx)(ht:aP Θ t=some ⟨z,cz,ag,zt,.map k e⟩)(hk:aP Θ k=some ⟨zk,bk,nt,mF,.string⟩)
 (hx:aQ tm x=some (.mp i))(hi:getM mm i=some (.fw (dI iC (lM m))))(hy:cx tm y=some (.one (.c (.str a0))))(C6:na tm vx=some (.one (.c (.int .i64 c))))(hd:o.dst=none)(hg:aY L tm o=some true)
 (hc:c=(m.length:Int))(hm:a0∉m)
 (g:SOps C n L.toArray l tm (cS mm i (.fw (dI iC (lM (m++[a0]))))) T):SOps C n L.toArray (o::l) tm mm T:=by
 subst hc
 rw[←Gt hm]at g
 exact Et bt ho ht hk hx hi hy C6 hd hg g
end
end Go.Sy
namespace Go.Sy
open Go.RowKit
def Og(es:List (FV×FV))(ct:CT):MM:=[(given,.box [.mp (given+2)]),(given+1,.box [.c ct]),(given+2,.fw es)]
structure ConS(P:Program)(f:FuncId)(es:List (FV×FV))(ct:CT)(args:List SV)(res:ST):Prop where
 ok:lG P f
 calls:∀(w:World) (M0:Nat→Prop) (H:Nat→Value) (Z:Nat→Nat) (vs:List Value),vB w M0 H Z (Og es ct)→
  Pw (fun v s=>cu (cU (Og es ct)) H Z w (fun b=>M0 b∨bT H (Og es ct) b) v s) vs args→
  Calls P f vs.toArray w fun e w'=>∃v,e=.returned v∧Ext (bT H (Og es ct)) w w'∧
   (∃H' Z',H' given=H given∧H' (given+1)=H (given+1)∧H' (given+2)=H (given+2)∧∀p∈Og es ct,eG (cU (Og es ct)) H' Z' w' (fun b=>M0 b∨bT H (Og es ct) b) p.1 p.2)∧
   eK (cU (Og es ct)) H Z w' (fun b=>M0 b∨bT H (Og es ct) b) v res
section
variable {C:Ctx} {n:Nat} {tm:TM} {mm:MM} {o:Oper} {d:Nat}
end
end Go.Sy
namespace Go.Sy
open Go.RowKit
def sO:List Oper→Option (List Oper×Oper)
 |[]=>none
 |[z]=>some ([],z)
 |o::r=>match sO r with
  |some (l,z)=>some (o::l,z)
  |none=>none
theorem yS:∀{L L':List Oper} {z:Oper},sO L=some (L',z)→L=L'++[z]
 |[],_,_,h=>by simp[sO]at h
 |[o],_,_,h=>by simp[sO]at h;obtain⟨rfl,rfl⟩:=h;rfl
 |o::p::r,L',z,h=>by
  simp only[sO]at h
  split at h
  ·rename_i l z' hs
   simp only[cI,Prod.mk.injEq]at h
   obtain⟨rfl,rfl⟩:=h
   rw[yS hs];rfl
  ·cases h
def pT(n:Nat):List Oper→Bool
 |[]=>true
 |o::r=>match o.guard with
  |none=>pT n r
  |some (j,_)=>match Nat.blt j n with
   |true=>pT n r
   |false=>false
theorem kY{n:Nat}:∀{l:List Oper},pT n l=true→∀o∈l,∀j b,o.guard=some (j,b)→j < n
 |[],_,_,ho,_,_,_=>by cases ho
 |o::r,h,o',ho,j,b,hg=>by
  unfold pT at h
  rcases ae.1 ho with rfl|ho
  ·rw[hg]at h
   simp only at h
   split at h
   ·rename_i hb;exact a6.mp hb
   ·cases h
  ·split at h
   ·exact kY h o' ho j b hg
   ·split at h
    ·exact kY h o' ho j b hg
    ·cases h
theorem pF{e:Go.Edge}:∀{l:List Go.Edge},e∈l→Region.binds .any e=true→e.on∈fi l
 |x::l,h,hb=>by
  unfold fi
  rcases ae.1 h with rfl|h
  ·rw[hb];exact ah
  ·split
   ·exact ab _ (pF h hb)
   ·exact pF h hb
theorem qQ{j:Nat}:∀{l:List Go.Edge},j∈fi l→∃e∈l,Region.binds .any e=true∧e.on=j
 |[],h=>by simp[fi]at h
 |x::l,h=>by
  unfold fi at h
  split at h
  ·rename_i hb
   rcases ae.1 h with rfl|h
   ·exact⟨x,ah,hb,rfl⟩
   ·obtain⟨e,h1,h2⟩:=qQ h
    exact⟨e,ab _ h1,h2⟩
  ·obtain⟨e,h1,h2⟩:=qQ h
   exact⟨e,ab _ h1,h2⟩
def PN(k:Nat):List Oper→Bool
 |[]=>false
 |o::r=>match eV (fi o.after.toList) k with
  |true=>true
  |false=>PN k r
def xx(L:List Oper)(af:List Nat):Nat→Bool
 |0=>true
 |k+1=>match eV af k with
  |true=>xx L af k
  |false=>match PN k L with
   |true=>xx L af k
   |false=>false
theorem Ac{k:Nat}:∀{L:List Oper},PN k L=true→∃o∈L,k∈fi o.after.toList
 |[],h=>by cases h
 |o::r,h=>by
  unfold PN at h
  split at h
  ·rename_i hm;exact⟨o,ah,cD.1 hm⟩
  ·obtain⟨o',ho,hk⟩:=Ac h
   exact⟨o',ab _ ho,hk⟩
theorem q9{L:List Oper}{af:List Nat}:∀{n:Nat},xx L af n=true→∀k,k < n→k∈af∨∃o∈L,k∈fi o.after.toList
 |n+1,h,k,hk=>by
  unfold xx at h
  have Lk:∀m,xx L af n=true→m < n→m∈af∨∃o∈L,m∈fi o.after.toList:=fun m hh hm=>q9 hh m hm
  split at h
  ·rename_i hm
   rcases bJ k n with h1|h1
   ·exact Lk k h h1
   ·have:k=n:=by omega
    subst this;exact .inl (cD.1 hm)
  ·split at h
   ·rename_i hm
    rcases bJ k n with h1|h1
    ·exact Lk k h h1
    ·have:k=n:=by omega
     subst this;exact .inr (Ac hm)
   ·cases h
section
variable {C:Ctx} {n:Nat} {mm:MM} {L:List Oper} {z:Oper}
theorem Ef{o:Oper}{a:Act}(h:∀j b,o.guard=some (j,b)→j < L.length):Region.wanted o (yielded (L++[z]).toArray a.tmps)=Region.wanted o (yielded L.toArray a.tmps):=by
 unfold Region.wanted
 split
 ·rfl
 ·rename_i j want hg
  have hj:=h j want hg
  have:yielded (L++[z]).toArray a.tmps j=yielded L.toArray a.tmps j:=by
   unfold yielded
   simp[aw hj]
  rw[this]
theorem ME{cN:TM}(b6:Ku L [] L 0=true)(hF:∀o∈L,I4 C n mm L cN o)(AW:∀p∈cN,∀q∈cN,p.1=q.1→p=q)
 (Fw:∀k,k < L.length→k∈fi z.after.toList∨∃o∈L,k∈fi o.after.toList)(bj:nq (fi z.after.toList) L.length=true)(M7:∀o∈L,∀j b,o.guard=some (j,b)→j < L.length)
 {P:TM→MM→Prop}(hP:SOps C n (L++[z]).toArray [z] cN mm P):
 ∀(fuel:Nat) (listed:Array Bool) (a:Act) (w:World) (tm:TM),listed.size=L.length+1→listed.getD L.length true=false→(listed.toList.filter (!·)).length≤fuel→(∀p,mQ L listed cN p→p∈tm)→(∀j o,L[j]? =some o→listed.getD j false=true→∀i∈fi o.after.toList,listed.getD i false=true)→Has C n tm mm a w→
  wpAny C.P .any (L++[z]).toArray (QT C n P) fuel listed a w:=by
 have Xy:(L++[z])[L.length]? =some z:=by simp
 have OW:∀k,k < L.length→(L++[z])[k]? =L[k]? :=fun k hk=>aw hk
 have gf:∀(listed:Array Bool),listed.size=L.length+1→(∀j,j∈Region.ready .any (L++[z]).toArray listed→j=L.length)→∀k,k < L.length→listed.getD k false=true:=by
  intro listed cM hr k
  induction k using Nat.strongRecOn with
  |_ k ih=>
   intro hk
   cases hl:listed.getD k false with
   |true=>rfl
   |false=>
    have dX:k∈Region.ready .any (L++[z]).toArray listed:=by
     rw[mem_ready]
     refine⟨?_,L[k],by rw[b8,OW k hk,aa hk],fun e he hb=>?_⟩
     ·have Lx:k < listed.size:=by omega
      simp[Array.getD,Lx]at hl⊢;exact hl
     ·obtain⟨_,_,h3⟩:=pG b6 k L[k] (aa hk)
      have:=pF (l:=L[k].after.toList) (by simpa using he) hb
      have bj:=dz h3 _ this
      exact ih e.on (by omega) (by omega)
    have:=hr k dX
    omega
 have Df:∀(listed:Array Bool),listed.size=L.length+1→listed.getD L.length true=false→(∀k,k < L.length→listed.getD k false=true)→L.length∈Region.ready .any (L++[z]).toArray listed:=by
  intro listed cM hz ha
  rw[mem_ready]
  refine⟨hz,z,by simp,fun e he hb=>?_⟩
  exact ha _ (dz bj _ (pF (by simpa using he) hb))
 have Xf:∀(fuel:Nat) (listed:Array Bool) (a:Act) (w:World) (tm:TM),listed.size=L.length+1→(∀k,k < L.length→listed.getD k false=true)→(∀p,mQ L listed cN p→p∈tm)→Has C n tm mm a w→
  wpOp C.P (L++[z]).toArray (QT C n P) L.length (wpAny C.P .any (L++[z]).toArray (QT C n P) fuel (listed.setIfInBounds L.length true)) a w:=by
  intro fuel listed a w tm cM ha hk hh
  have XF:Has C n cN mm a w:=hh.kX fun p hp=>hk p ⟨hp,by
   by_cases hd:p.1∈bP L
   ·obtain⟨k,o,h1,h2⟩:=eI hd
    exact .inr ⟨k,o,h1,h2,ha k (ai.1 h1).1⟩
   ·exact .inl hd⟩
  have jR:Region.ready .any (L++[z]).toArray (listed.setIfInBounds L.length true)=[]:=by
   rw[cG]
   intro j hj
   obtain⟨h1,o,h2,_⟩:=mem_ready.1 hj
   have fg:j < (L++[z]).length:=by simpa using(bd.1 h2).1
   simp only[au,nX]at fg
   by_cases Yd:j=L.length
   ·subst Yd
    have:L.length < listed.size:=by omega
    simp[Array.getD,this]at h1
   ·have h3:=ha j (by omega)
    have Qq:j < listed.size:=by omega
    have cV:L.length≠j:=fun e=>Yd e.symm
    rw[getD_set_ne true cV]at h1
    simp[Array.getD,Qq]at h1 h3
    rw[h3]at h1;cases h1
  have hw:=hP a w XF
  have oU:∀a' w',QT C n P .normal a' w'→wpAny C.P .any (L++[z]).toArray (QT C n P) fuel (listed.setIfInBounds L.length true) a' w':=by
   intro a' w' hq
   cases fuel with
   |zero=>exact⟨jR,hq⟩
   |succ fuel=>exact⟨fun _=>hq,fun i hi=>by rw[jR]at hi;cases hi⟩
  unfold wpOp
  simp only[b8,Xy]
  unfold wpList at hw
  split at hw
  ·rename_i Fe
   rw[if_pos Fe]
   rcases hw with hw|hw
   ·exact .inl (Oper.wp_mono (fun a' w' h'=>oU a' w' h') hw)
   ·exact .inr hw
  ·rename_i Fe
   rw[if_neg Fe]
   exact oU _ _ hw
 intro fuel
 induction fuel with
 |zero=>
  intro listed a w tm cM hz hc hk vp hh
  exfalso
  have hm:false∈listed.toList.filter (!·):=by
   rw[cn]
   have hs:L.length < listed.size:=by omega
   have:listed[L.length]=false:=by simpa[Array.getD,hs]using hz
   exact⟨by rw[←this];simp,rfl⟩
  have:=dU hm
  omega
 |succ fuel ih=>
  intro listed a w tm cM hz hc hk vp hh
  refine⟨fun hr=>?_,fun i hi=>?_⟩
  ·exfalso
   have:=Df listed cM hz (gf listed cM fun j hj=>by rw[hr]at hj;cases hj)
   rw[hr]at this;cases this
  obtain⟨h1,o,h2,h3⟩:=mem_ready.1 hi
  have sb:i < (L++[z]).length:=by simpa using(bd.1 h2).1
  simp only[au,nX]at sb
  by_cases Yf:i=L.length
  ·subst Yf
   have WJ:o=z:=by simpa using h2.symm
   subst WJ
   refine Xf fuel listed a w tm cM (fun k j7=>?_) hk hh
   have key:∀m,∀k,k+m=L.length→0 < m→listed.getD k false=true:=by
    intro m
    induction m using Nat.strongRecOn with
    |_ m Wl=>
     intro k VT RW
     rcases Fw k (by omega)with W0|⟨o',dv,UF⟩
     ·obtain⟨e,he,hb,OR⟩:=qQ W0
      have:=h3 e (by simpa using he) hb
      rwa [OR]at this
     ·obtain⟨j,hj,UI⟩:=aC.1 dv
      have QA:L[j]? =some o':=by rw[aa hj,UI]
      obtain⟨_,_,g3⟩:=pG b6 j o' QA
      have Lw:=dz g3 _ UF
      exact vp j o' QA (Wl (L.length - j) (by omega) j (by omega) (by omega)) k UF
   exact key (L.length - k) k (by omega) (by omega)
  have W6:i < L.length:=by omega
  have hL:L[i]? =some o:=by
   have:(L++[z])[i]? =some o:=by simpa using h2
   rwa [OW i W6]at this
  have mT:i < listed.size:=by omega
  have iO:listed[i]=false:=by simpa[Array.getD,mT]using h1
  obtain⟨_,hw,_⟩:=pG b6 i o hL
  obtain⟨d,s,e1,e2,e3⟩:=hF o (aj hL)
  have qt:∀j,j∈fi o.after.toList→listed.getD j false=true:=by
   intro j hj
   obtain⟨e,he,hb,OR⟩:=qQ hj
   have:=h3 e (by simpa using he) hb
   rwa [OR]at this
  have dn:∀p∈cN,p.1∈aI L o→p∈tm:=by
   intro p hp hl
   refine hk p ⟨hp,?_⟩
   by_cases hd:p.1∈bP L
   ·obtain⟨k,o',k1,k2⟩:=eI hd
    have:=iK hw k o' p.1 k1 k2 hl
    exact .inr ⟨k,o',k1,k2,qt k (by simpa using this)⟩
   ·exact .inl hd
  have gp:((listed.setIfInBounds i true).toList.filter (!·)).length≤fuel:=by
   have h5:((listed.setIfInBounds i true).toList.filter (!·)).length+1=(listed.toList.filter (!·)).length:=by
    rw[show(listed.setIfInBounds i true).toList=listed.toList.set i true by simp]
    exact count_set (by simp[mT,iO])
   omega
  have Lr:∀a' w',Has C n ((d,s)::bo tm d) mm a' w'→wpAny C.P .any (L++[z]).toArray (QT C n P) fuel (listed.setIfInBounds i true) a' w':=by
   intro a' w' h'
   refine ih (listed.setIfInBounds i true) a' w' _ (by simpa using cM) (by rw[getD_set_ne true Yf];exact hz) gp (fun p hp=>?_) (fun j oj hj fg q hq=>?_) h'
   rotate_left
   ·by_cases nv:q=i
    ·subst nv;simp[Array.getD,mT]
    ·rw[getD_set_ne false (fun e=>nv e.symm)]
     by_cases lz:j=i
     ·subst lz
      rw[hL]at hj;injection hj with hj;subst hj
      exact qt q hq
     ·rw[getD_set_ne false (fun e=>lz e.symm)]at fg
      exact vp j oj hj fg q hq
   obtain⟨g1,g2⟩:=hp
   by_cases tk:p.1=d
   ·have:p=(d,s):=AW p g1 (d,s) e2 tk
    rw[this];exact ah
   ·refine ab _ (b9 (hk p ⟨g1,?_⟩) tk)
    rcases g2 with g2|⟨k,o',k1,k2,k3⟩
    ·exact .inl g2
    ·refine .inr ⟨k,o',k1,k2,?_⟩
     have sB:i≠k:=by
      intro e;subst e
      rw[hL]at k1;injection k1 with k1;subst k1
      rw[e1]at k2;injection k2 with k2;exact tk k2.symm
     rwa [getD_set_ne false sB]at k3
  unfold wpOp
  have sE:(L++[z])[i]? =some o:=by simpa using h2
  simp only[b8,sE]
  have h6:=e3 tm dn a w (wpAny C.P .any (L++[z]).toArray (QT C n P) fuel (listed.setIfInBounds i true)) (QT C n P) hh Lr
  rw[←Ef (z:=z) (a:=a) (M7 o (aj hL))]at h6
  split
  ·rename_i Fe;rw[if_pos Fe]at h6;exact .inl h6
  ·rename_i Fe;rw[if_neg Fe]at h6;exact h6
theorem G1{Lf:List Oper}{f:FuncId}{R:Ending→World→Prop}{k:List Item}{id:Nat}{tm:TM}(mq:C.P.follows .mixedOrders=true)(yp:sO Lf=some (L,z))(b6:Ku L [] L 0=true)(hu:rD (bP L) (gB (bP L) tm)=true)
 (Fw:xx L (fi z.after.toList) L.length=true)(bj:nq (fi z.after.toList) L.length=true)(M7:pT L.length L=true)
 (h:DOps C n mm L (gB (bP L) tm) L (gB (bP L) tm) (fun tm'=>SOps C n Lf.toArray [z] tm' mm (fun Eo Rp=>Goes C f n R k Eo Rp))):Goes C f n R (.code (.region id Lf.toArray true)::k) tm mm:=by
 have XA:=yS yp
 subst XA
 obtain⟨u1,u2⟩:=jW hu
 obtain⟨cN,hg,hF,xe,ly⟩:=h [] 0 ⟨fun o ho=>(by cases ho),u2,fun p hp _=>hp,b6,rfl⟩
 intro a w Xc b cs hb hk
 have hh:Has C n (gB (bP L) tm) mm a w:=Xc.kX fun _ hp=>jG hp
 have o3:=ME (z:=z) (P:=fun tm' mm'=>Goes C f n R k tm' mm') b6 hF ly (q9 Fw) bj (kY M7) hg (L.length+1) (Array.replicate (L.length+1) false) a {w with drawn:=w.drawn+1} (gB (bP L) tm) (by simp) (by simp[Array.getD])
  (by rw[show(Array.replicate (L.length+1) false).toList=List.replicate (L.length+1) false by simp];exact dB (cR _ _) (by simp))
  (fun p hp=>by
    obtain⟨g1,g2|⟨k,o,k1,k2,k3⟩⟩:=hp
    ·exact xe p g1 g2
    ·have j7:=(ai.1 k1).1
     simp[Array.getD,show k < L.length+1 by omega]at k3) (fun j o _ fg=>by
    exfalso
    by_cases hj:j < L.length+1
    ·simp[Array.getD,hj]at fg
    ·simp[Array.getD,hj]at fg) hh.drawn
 have K9:=wp_region_any (id:=id) (Q:=QT C n (fun tm' mm'=>Goes C f n R k tm' mm')) (ops:=(L++[z]).toArray) (a:=a) (w:=w) mq (by simpa using o3)
 obtain⟨e,a',w',hq,qi⟩:=K9 b k cs
 cases e with
 |normal=>
  obtain⟨tm',mm',hg,IC⟩:=hq
  obtain⟨e,yc,fr,g1,g2,g3⟩:=hg a' w' IC b cs hb hk
  exact⟨e,yc,fr,g1,Comes.of_steps qi g2,g3⟩
 |_=>exact hq.elim
end
end Go.Sy
namespace Go.Sy
open Go.RowKit
section
variable {C:Ctx} {n:Nat} {tm:TM} {mm:MM} {o:Oper} {d:Nat} {x y:Operand}
theorem HQ{Θ:da}(bt:a8 C.P Θ){t:TypeId}{ti:fN}{i j off e sz:Nat}{nn:Bool}{xs:List (List CT)}{s:SV}{cs x0 x1:List CT}
 (ho:o.op=.store t x y)(ht:aP Θ t=some ti)(hx:aQ tm x=some (.iH i j off))(hi:getM mm i=some (.arr nn e sz xs))(hj:xs[j]? =some x0)
 (hy:cx tm y=some s)(hc:iG s.cells=some cs)(cM:Nat.beq cs.length ti.size=true)(yp:gl x0 off cs=some x1)(GQ:s.cells.all SC.known=true)(hd:o.dst=none):
 xX C n o tm mm tm (cS mm i (.arr nn e sz (xs.set j x1))):=by
 intro a w ⟨H,Z,hm⟩
 obtain⟨inf,de,hf⟩:=gI bt ht
 obtain⟨hz,us,dH,vn,hlen,cC⟩:=hm.mem _ (aT hi)
 obtain⟨_,bb,Sf,C5⟩:=aU hm hx
 simp only at hz dH vn cC
 obtain⟨OA,WL⟩:=jo yp
 have fg:j < xs.length:=(ai.1 hj).1
 have Iq:x0.length=sz:=hlen x0 (aj hj)
 have sC:cs.length=ti.size:=aJ cM
 obtain⟨c1,c2⟩:=(c8 hm hy).cells hm GQ
 have xa:Pw (fun u c=>aV w (cO C H mm) u c) (a.eval y).cells.toList cs:=
  iF hc ⟨by simpa using c1,fun j c hc=>let⟨u,hu,_,hr⟩:=c2 j c hc;⟨u,by simpa using hu,hr⟩⟩
 have uU:∀v∈(a.eval y).cells.toList,v.oneCell'=true:=by
  intro v hv
  obtain⟨j,hj,R1⟩:=aC.1 hv
  have fg:j < cs.length:=by rw[←xa.1];exact hj
  obtain⟨u,hu,hr⟩:=xa.2 j cs[j] (aa fg)
  rw[aa hj,R1]at hu
  injection hu with hu
  rw[hu];exact hr.one
 have jB:(a.eval y).cells.toList.length=cs.length:=xa.1
 rcases dH.2 with⟨_,h0⟩|⟨g,cap,cur,hv,UN,qv,jC,kL,yv,ob⟩
 ·omega
 have hb:bb=g:=by rw[hv]at Sf;simp[hblk]at Sf;exact Sf.symm
 subst hb
 rw[hz]at C5
 have Qq:j * sz+sz≤xs.length * sz:=by
  have:=br sz (show j+1≤xs.length from fg)
  rw[ec]at this;omega
 have Qv:xs.length * sz≤cap * sz:=br _ jC
 obtain⟨p,hp⟩:∃p,p=j * sz+off:=⟨_,rfl⟩
 have M3:p+cs.length≤j * sz+sz:=by omega
 rw[←hp]at C5
 have dL:=run_storeCells_at (P:=C.P) bb p e (a.eval y).cells.toList 0 cur w qv (by rw[jB,yv];omega) uU
 have mS:(a.eval y).cells.size=ti.size:=by rw[←sC,←jB];simp
 have jh:=setRow_heap w bb cur (cur.toList.take (p+0)++(a.eval y).cells.toList++cur.toList.drop (p+0+(a.eval y).cells.toList.length)).toArray e (0,0) qv
 have dy:=ll w bb (cur.toList.take (p+0)++(a.eval y).cells.toList++cur.toList.drop (p+0+(a.eval y).cells.toList.length)).toArray
 generalize Jc:w.setRow bb (cur.toList.take (p+0)++(a.eval y).cells.toList++cur.toList.drop (p+0+(a.eval y).cells.toList.length)).toArray=w' at jh dy dL
 have GJ:us=cur.toList.take (xs.length * sz):=ob.symm
 have Dk:cur.toList.length=cap * sz:=by simpa using yv
 refine .inr ⟨w',?_,H,Z,?_⟩
 ·simp only[execOp,ho,C5,Instr.storeAt,Instr.sureAddr,storeVar,Sem.run_bind,Sem.run_pure,Result.andThen_ok,hf.sizeOf,mS,ne_eq,not_true,if_false,dL]
 ·rw[hd]
  refine hm.jV (b0:=bb) ⟨_,aT hi,rfl⟩ (by rw[hv];rfl) dy hm.defers hm.size ?_ (fun p hp=>⟨hp,rfl⟩)
  intro iP gb
  have Fc:x1.length=sz:=by rw[OA,au,au,aO,dV,Iq];omega
  refine⟨hz,us.take p++(a.eval y).cells.toList++us.drop (p+cs.length),⟨?_,.inr ⟨bb,cap,_,by rw[hv];simp,UN,jh,by simpa using jC,kL,?_,?_⟩⟩,vn,fun q hq=>?_,fun l q hq m ct qh=>?_⟩
  ·have qf:=dH.1
   rw[au,au,aO,dV,jB,qf,gO];omega
  ·rw[tT,au,au,aO,dV,jB,Dk];omega
  ·simp only[gO,qA]
   rw[oy (by rw[jB];omega) (by omega),ob,jB]
  ·rcases dt hq with hq|rfl
   ·exact hlen q hq
   ·exact Fc
  ·have qf:us.length=xs.length * sz:=dH.1
   rw[cv]at hq
   have De:∀{q:List CT},q.length=sz→q[m]? =some ct→m < sz:=fun h1 h2=>by rw[←h1];exact(ai.1 h2).1
   have fy:∀{r u},us[r]? =some u→(r < p∨p+cs.length≤r)→(us.take p++(a.eval y).cells.toList++us.drop (p+cs.length))[r]? =some u:=by
    intro r u hu hr
    have BF:=(ai.1 hu).1
    rcases hr with hr|hr
    ·rw[bf,aw (by rw[aO];omega),bU,if_pos hr]
     exact hu
    ·rw[aN (by rw[au,aO,jB];omega),cf]
     rw[←hu];congr 1;rw[au,aO,jB];omega
   split at hq
   ·rename_i Ly;subst Ly
    injection hq with hq;subst hq
    have Iv:=De Fc qh
    by_cases Iu:m < off∨off+cs.length≤m
    ·have Sa:x0[m]? =some ct:=by
      rw[OA]at qh
      rcases Iu with Iu|Iu
      ·rw[bf,aw (by rw[aO];omega),bU,if_pos Iu]at qh
       exact qh
      ·rw[aN (by rw[au,aO];omega),cf]at qh
       rw[←qh];congr 1;rw[au,aO];omega
     obtain⟨u,hu,hr⟩:=cC j x0 hj m ct Sa
     exact⟨u,fy hu (by omega),aV.mono hr dy.size gb iP⟩
    ·have R9:cs[m - off]? =some ct:=by
      rw[OA,aw (by rw[au,aO];omega),aN (by rw[aO];omega)]at qh
      rw[←qh];congr 1;rw[aO];omega
     obtain⟨u,hu,hr⟩:=xa.2 (m - off) ct R9
     refine⟨u,?_,aV.mono hr dy.size gb iP⟩
     rw[aw (by rw[au,aO,jB,qf];omega),aN (by rw[aO,qf];omega)]
     rw[←hu];congr 1;rw[aO,qf];omega
   ·rename_i Ly
    have hl:l < xs.length:=(ai.1 hq).1
    have Iv:=De (hlen q (aj hq)) qh
    obtain⟨u,hu,hr⟩:=cC l q hq m ct qh
    refine⟨u,fy hu ?_,aV.mono hr dy.size gb iP⟩
    rcases bJ l j with bj|UM
    ·have hle:l * sz+sz≤j * sz:=by
      have:=br sz (show l+1≤j from bj)
      rw[ec]at this;omega
     omega
    ·have hle:j * sz+sz≤l * sz:=by
      have:=br sz (show j+1≤l by omega)
      rw[ec]at this;omega
     omega
end
section
variable {C:Ctx} {n:Nat} {tm:TM} {mm:MM} {L l:List Oper} {T:TM→MM→Prop} {o:Oper} {d:Nat} {x y:Operand}
theorem JI{Θ:da}(bt:a8 C.P Θ){t:TypeId}{ti:fN}{i j off e sz:Nat}{nn:Bool}{xs:List (List CT)}{s:SV}{cs x1:List CT}(x0:List CT)
 (ho:o.op=.store t x y)(ht:aP Θ t=some ti)(hx:aQ tm x=some (.iH i j off))(hi:getM mm i=some (.arr nn e sz xs))(hj:xs[j]? =some x0)
 (hy:cx tm y=some s)(hc:iG s.cells=some cs)(cM:Nat.beq cs.length ti.size=true)(yp:gl x0 off cs=some x1)(GQ:s.cells.all SC.known=true)(hd:o.dst=none)(hg:aY L tm o=some true)
 (k:SOps C n L.toArray l tm (cS mm i (.arr nn e sz (xs.set j x1))) T):SOps C n L.toArray (o::l) tm mm T:=
 cB (HQ bt ho ht hx hi hj hy hc cM yp GQ hd).wp hg k
theorem JN(i j t:Nat){e sz:Nat}{v:Value}{xs:List (List CT)}(hi:getM mm i=some (.bF e sz [(v,xs)]))(iJ:Nat.blt i given=true)(ht:jD tm t=some (.v (.one (.c (.val v)))))
 (Ed:Nat.blt j given=true)(OK:jj mm j=false)(gA:eD i mm=true)(qX:gn i tm=true)
 (g:SOps C n L.toArray l ((t,.v (.one (.own j)))::bo tm t) ((j,.arr false e sz xs)::fO [i] mm) T):SOps C n L.toArray l tm mm T:=
 fun a w hh=>g a w (Has.Wc i j t hi iJ ht Ed OK gA qX hh)
end
section
variable {C:Ctx} {n:Nat} {tm cq:TM} {mm:MM} {L l:List Oper} {T:TM→Prop} {o:Oper} {d:Nat} {x y:Operand}
theorem Ps{Θ:da}(bt:a8 C.P Θ){t k e:TypeId}{z cz zk bk:Nat}{ag nt:Bool}{zt mF:Option (List CT)}{ei:fN}{zc:CT}{i:Nat}{m:List (Int×CT)}{a0:Int}
 (ho:o.op=.lookup t x y false)(ht:aP Θ t=some ⟨z,cz,ag,zt,.map k e⟩)(hk:aP Θ k=some ⟨zk,bk,nt,mF,.int .i64⟩)(dO:aP Θ e=some ei)(hz:ei.zero=some [zc])(yt:ei.agg=false)
 (hx:aQ (aX (aI L o) tm) x=some (.mp i))(hi:getM mm i=some (.fw (dI tf m)))(hy:cx (aX (aI L o) tm) y=some (.one (.c (.int .i64 a0))))(hd:o.dst=some d)(hn:Nat.blt d n=true)(hg:aY L (aX (aI L o) tm) o=some true)
 (g:DOps C n mm L cq l ((d,.v (.one (.c (dE m a0 zc))))::bo tm d) T):DOps C n mm L cq (o::l) tm T:=
 mv (Cp bt ho ht hk dO hz yt hx hi hy hd hn) hg g
end
end Go.Sy
