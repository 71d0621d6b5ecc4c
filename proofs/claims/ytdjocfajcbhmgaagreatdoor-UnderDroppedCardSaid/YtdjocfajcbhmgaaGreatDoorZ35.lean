/- Contracts: reparteemake.Dropped. -/
import Derived.Test.YtdjocfajcbhmgaaGreatDoorAu
import Derived.Test.YtdjocfajcbhmgaaGreatDoorZ33
import Derived.Test.YtdjocfajcbhmgaaGreatDoorZ25
import Derived.Test.YtdjocfajcbhmgaaGreatDoorSymZx
import Derived.Test.YtdjocfajcbhmgaaGreatDoorZ29
import Derived.Test.YtdjocfajcbhmgaaGreatDoorZ1
import Derived.Test.YtdjocfajcbhmgaaGreatDoorZ30
import Derived.Test.YtdjocfajcbhmgaaGreatDoorSy5
import Derived.Test.YtdjocfajcbhmgaaGreatDoorZ32
set_option maxHeartbeats 64000000
set_option linter.unusedSimpArgs false
set_option linter.unusedVariables false
set_option linter.unusedSectionVars false
namespace Go.Sy
open Go.Proofs
set_option maxRecDepth 100000
attribute [local irreducible] SOps Goes DOps EOps GOps FOps
section
variable {C:Ctx} {n:Nat} {tm:TM} {mm:MM} {L l:List Oper} {T:TM→MM→Prop} {o:Oper} {d:Nat} {x y:Operand} {ty rk:TypeId}
theorem JR{k:IntKind}{a b:Int}(ho:o.op=.binOp .add ty x y rk)(hx:aQ tm x=some (.c (.int k a)))(hy:aQ tm y=some (.c (.int k b)))(hd:o.dst=some d)(hn:Nat.blt d n=true)(hg:aY L tm o=some true)(r:Int)
 (hr:k.wrap (a+b)=r)(g:SOps C n L.toArray l ((d,.v (.one (.c (.int k r))))::bo tm d) mm T):SOps C n L.toArray (o::l) tm mm T:=
 cB (iE (p:=.add) ho hx hy hr hd hn).wp hg g
theorem Er{k:IntKind}{a b:Int}(ho:o.op=.binOp .rem ty x y rk)(hx:aQ tm x=some (.c (.int k a)))(hy:aQ tm y=some (.c (.int k b)))(hd:o.dst=some d)(hn:Nat.blt d n=true)(hg:aY L tm o=some true)(r:Int)
 (h0:b≠0)(hr:a.tmod b=r)(g:SOps C n L.toArray l ((d,.v (.one (.c (.int k r))))::bo tm d) mm T):SOps C n L.toArray (o::l) tm mm T:=
 cB (iE (p:=.rem) ho hx hy ⟨h0,hr⟩ hd hn).wp hg g
theorem JJ{Θ:da}(bt:a8 C.P Θ){nn:Bool}{sz:Nat}{xs:List (List CT)}{kd:IntKind}{m:Int}{e:Nat}{z cz:Nat}{ag:Bool}{zr:Option (List CT)}{ei:fN}
 (ho:o.op=.slice ty x none (some y) none)(ht:aP Θ ty=some ⟨z,cz,ag,zr,.slice e⟩)(dO:aP Θ e=some ei)(hx:aQ tm x=some (.c (.slice nn sz xs)))
 (hi:aQ tm y=some (.c (.int kd m)))(hd:o.dst=some d)(hn:Nat.blt d n=true)(hg:aY L tm o=some true)
 (j:Nat)(hm:m=(j:Int))(hj:j≤xs.length)(k:SOps C n L.toArray l ((d,.v (.one (.c (.slice nn sz (xs.take j)))))::bo tm d) mm T):SOps C n L.toArray (o::l) tm mm T:=
 cB (wg bt ho ht dO hx hi hm hj hd hn).wp hg k
end
section
variable {C:Ctx} {n:Nat} {L l:List Oper} {tm cq:TM} {E:List Nat} {i:Nat} {mmf:Nat→MM} {TF:TM→Prop} {o:Oper} {d:Nat} {x y:Operand} {ty:TypeId}
theorem FH{Θ:da}(bt:a8 C.P Θ){t:TypeId}{z cz e:Nat}{ag:Bool}{zt:Option (List CT)}{ei:fN}{zr:List CT}{uh:Bool}{sz:Nat}{ys:List (List CT)}
 (ho:o.op=.call {callee:=.builtin .append,args:=⟨[x,y]⟩,argTypes:=⟨[t,t]⟩})(ht:aP Θ t=some ⟨z,cz,ag,zt,.slice e⟩)(dO:aP Θ e=some ei)(hz:ei.zero=some zr)
 (cM:Nat.beq ei.size sz=true)(lx:Nat.blt 0 ei.size=true)(hx:aQ (aX (aI L o) tm) x=some (.c .bA))(hy:aQ (aX (aI L o) tm) y=some (.c (.slice uh sz ys)))
 (hd:o.dst=some d)(hn:Nat.blt d n=true)(hg:aY L (aX (aI L o) tm) o=some true)(lg:eV E i=false)
 (gW:ys.length≤9223372036854775807∧ys.length * ei.bytes≤140737488355328)
 (k:FOps C n mmf L cq E (i+1) l ((d,.v (.one (.c (.slice false sz ys))))::bo tm d) TF):FOps C n mmf L cq E i (o::l) tm TF:=
 FOps.step lg hg (fun _ _ _=>Cr bt ho ht dO hz cM lx hx hy hd hn gW) hd k
theorem Dv{Θ:da}(bt:a8 C.P Θ){nn:Bool}{sz:Nat}{xs:List (List CT)}{kd:IntKind}{m:Int}{e:Nat}{z cz:Nat}{ag:Bool}{zr:Option (List CT)}{ei:fN}
 (ho:o.op=.slice ty x (some y) none none)(ht:aP Θ ty=some ⟨z,cz,ag,zr,.slice e⟩)(dO:aP Θ e=some ei)(cM:Nat.beq ei.size sz=true)(hx:aQ (aX (aI L o) tm) x=some (.c (.slice nn sz xs)))
 (hi:aQ (aX (aI L o) tm) y=some (.c (.int kd m)))(hd:o.dst=some d)(hn:Nat.blt d n=true)(hg:aY L (aX (aI L o) tm) o=some true)(lg:eV E i=false)
 (j:Nat)(hm:m=(j:Int))(hj:j≤xs.length)(k:FOps C n mmf L cq E (i+1) l ((d,.v (.one (.c (.slice nn sz (xs.drop j)))))::bo tm d) TF):FOps C n mmf L cq E i (o::l) tm TF:=
 FOps.step lg hg (fun _ _ _=>(AE bt ho ht dO cM hx hi hm hj hd hn).Em) hd k
end
theorem MS.TU{sz:Nat}{qs:PQ}{a b:List CT}(h:D4 sz qs a b):∀(l:List (List CT)) (k:Nat),MS sz qs (l.set k a) (l.set k b)
 |[],_=>.refl _
 |x::l,0=>.cons h (.refl l)
 |x::l,k+1=>.cons (.refl x) (MS.TU h l k)
def tE(n:Nat)(at_:Int)(i:Nat):Nat:=((IntKind.u64.wrap (IntKind.u64.wrap at_+(i:Int))).tmod (n:Int)).toNat
def dropFd(p:b7)(at_:Int):Nat→Nat→Option Nat
 |0,_=>none
 |f+1,i=>if 1 < (aM p (tE p.points.length at_ i:Nat)).ax.length then some (tE p.points.length at_ i)else dropFd p at_ f (i+1)
def pa(n:Nat)(iz:Int):Nat:=((IntKind.u64.wrap iz).tmod (n:Int)).toNat
theorem ux{p:b7}{at_:Int}(h0:1≤p.points.length)(h1:p.points.length≤1000):∀{f i k:Nat},dropFd p at_ f i=some k→k < p.points.length∧1 < (aM p (k:Nat)).ax.length
 |f+1,i,k,h=>by
  rw[dropFd]at h
  split at h
  ·rename_i h2
   injection h with h
   subst h
   refine⟨?_,h2⟩
   have:=NO (x:=IntKind.u64.wrap at_+(i:Int)) (n:=(p.points.length:Int)) (by omega) (by omega)
   unfold tE;omega
  ·exact ux h0 h1 h
def nO(p:b7)(nm:ByteArray)(at_ iz:Int):ST:=match dropFd p at_ p.points.length 0 with
 |some k=>.fo [Ag (jT p nm k (pa (aM p (k:Nat)).ax.length iz)).cs,C1 (.int .i64 (k:Int)),C1 (.bool true)]
 |none=>.fo [Ag (⟨nm,p.aW,p.points⟩:b7).cs,C1 (.int .i64 0),C1 (.bool false)]
def XP(p:b7)(nm:ByteArray):Nat→Value→TM
 |1,v=>[(23,.v (.one (.c (.val v))))]
 |2,v=>[(24,.v (.agg [.c (.str nm),.c (.slice false 1 (p.aW.map fun s=>[CT.str s])),.c (.val v)]))]
 |_,_=>[]
def XN(p:b7):Nat→Value→MM
 |0,_=>[(8,.box [.c (.str ⟨#[]⟩),.c .bA,.c .bA]),(4,.box (p.cs.map SC.c))]
 |_,v=>[(200,.bF 37 3 [(v,p.points.map kP.cs)]),(8,.box [.c (.str ⟨#[]⟩),.c .bA,.c .bA]),(4,.box (p.cs.map SC.c))]
def XR(p:b7)(nm:ByteArray):Nat→Value→MO
 |0,_=>.box [.c (.str ⟨#[]⟩),.c .bA,.c .bA]
 |1,_=>.box [.c (.str ⟨#[]⟩),.c .bA,.c .bA]
 |2,_=>.box [.c (.str ⟨#[]⟩),.c .bA,.c .bA]
 |_,v=>.box [.c (.str nm),.c (.slice false 1 (p.aW.map fun s=>[CT.str s])),.c (.val v)]
abbrev Pk(p:b7)(nm:ByteArray)(v:Value):MM:=[(200,.bF 37 3 [(v,p.points.map kP.cs)]),(8,.box [.c (.str ⟨#[]⟩),.c .bA,.c .bA]),(4,.box (p.cs.map SC.c)),(11,.box [.c (.str nm),.c (.slice false 1 (p.aW.map fun s=>[CT.str s])),.c (.val v)])]
abbrev XQ:Nat→Value→TM
 |1,v=>[(80,.v (.one (.c (.val v))))]
 |_,_=>[]
def XO(p:b7)(nm:ByteArray)(v v2:Value)(k:Nat)(x:kP)(m:Nat):Nat→Value→MM
 |0,_=>(166,.bF 34 4 [(v2,(x.ax.map bD.cs).take m)])::Pk p nm v
 |1,w=>(166,.bF 34 4 [(w,(x.ax.map bD.cs).take m++(x.ax.map bD.cs).drop (m+1))])::Pk p nm v
 |_,w=>[(166,.bF 34 4 [(w,(x.ax.map bD.cs).take m++(x.ax.map bD.cs).drop (m+1))]),(200,.bF 37 3 [(v,(p.points.map kP.cs).set k [.str x.from_,.str x.to,.val w])]),(8,.box [.c (.str ⟨#[]⟩),.c .bA,.c .bA]),(4,.box (p.cs.map SC.c)),(11,.box [.c (.str nm),.c (.slice false 1 (p.aW.map fun s=>[CT.str s])),.c (.val v)])]
theorem IN(p:b7)(nm:ByteArray)(at_ iz:Int)(hr:p.aW.length≤1000)(hp:1≤p.points.length∧p.points.length≤1000)(ha:∀x∈p.points,x.ax.length≤1000):
 er Tryz.prog 22 [] [Ag p.cs,C1 (.str nm),C1 (.int .i64 at_),C1 (.int .i64 iz)] (nO p nm at_ iz) []:=by
 refine bn (c:=_) Tryz.func22 rfl rfl rfl (by decide) fun w M0 H Z=>?_
 repeat'(first|(refine o6 1 J ?_;refine LZ th (ι:=Value) 8 11 [6,7,9] [] (XP p nm) (XN p) (XR p nm) (.slice none 0 0) mix J J J J J J (fun k x=>by match k with|0=>rfl|_+1=>rfl) J J (fun k x hk=>by match k,hk with|0,_=>rfl|1,_=>rfl|2,_=>rfl) J (fun k x hk=>by match k,hk with|0,_=>(refine e6 ?_;repeat (first|exact trivial|refine⟨rfl,?_⟩))|_+1,_=>(refine e6 ?_;repeat (first|exact trivial|refine⟨rfl,?_⟩))) J (fun k x=>by match k with|0|1|2|_+3=>rfl) J J (by simp) J J ?_;refine iY th J ?_)|refine aA ?_|(refine aB ?_ ?_<;>first|exact aD|(refine aE ?_;intro hb))|(refine FH th J J J J J J J J J J J J (by constructor<;>simp<;>omega) ?_;refine iY th J ?_))
 refine FOps.nil ⟨gY.cons rfl (fun x=>?_) (gY.cons rfl (fun x=>?_) (gY.cons rfl (fun x=>?_) gY.nil)),gY.cons rfl (fun x=>?_) (gY.cons rfl (fun x=>?_) gY.nil),fun v=>?_⟩
 ·exact sj th 200 J J J J J J J J J J J J J J J J (by constructor<;>simp<;>omega) (fun v=>v) (fun _=>rfl) (fun _=>rfl)
 ·exact G6 th J J J J J J J
 ·exact L8 (i:=11) th J J J J J J J J J J J J
 ·exact sj th 200 J J J J J J J J J J J J J J J J (by constructor<;>simp<;>omega) (fun v=>v) (fun _=>rfl) (fun _=>rfl)
 ·exact G6 th J J J J J J J
 have hlen:((p.points.map kP.cs).length:Int)=(p.points.length:Int):=by simp
 refine GX (tm':=[(2,.v (C1 (.int .i64 at_))),(3,.v (C1 (.int .i64 iz))),(4,.v (.one (.ptr 4 0))),(8,.v (.one (.ptr 8 0))),(11,.v (.one (.ptr 11 0)))]) (mm':=Pk p nm v)
  (by(repeat refine⟨⟨_,rfl,.refl _⟩,?_⟩);trivial) (by(repeat refine⟨⟨_,rfl,.refl _⟩,?_⟩);trivial) J J J ?_
 repeat'(first|refine aA ?_|(refine aB ?_ ?_<;>first|exact aD|(refine aE ?_;intro hb))|fail)
 refine bE (fun i:Nat=>i≤p.points.length∧dropFd p at_ (p.points.length - i) i=dropFd p at_ p.points.length 0)
  (fun i=>[(2,.v (C1 (.int .i64 at_))),(3,.v (C1 (.int .i64 iz))),(4,.v (.one (.ptr 4 0))),(8,.v (.one (.ptr 8 0))),(11,.v (.one (.ptr 11 0))),(12,.v (C1 (.int .i64 (i:Int))))])
  (fun _=>Pk p nm v)
  (fun i=>p.points.length - i) 0 ⟨aF _,rfl⟩
  aH (fun i hi ih=>?_)
 obtain⟨hi,w9⟩:=hi
 by_cases bj:i < p.points.length
 ·rw[show p.points.length - i=(p.points.length - (i+1))+1 by omega,dropFd]at w9
  have VL:=NO (x:=IntKind.u64.wrap at_+(i:Int)) (n:=(p.points.length:Int)) (by omega) (by omega)
  obtain⟨k,RZ⟩:∃k,k=tE p.points.length at_ i:=⟨_,rfl⟩
  have hk:k < p.points.length:=by rw[RZ];unfold tE;omega
  have gv:(IntKind.u64.wrap (IntKind.u64.wrap at_+(i:Int))).tmod (p.points.length:Int)=(k:Int):=by rw[RZ];unfold tE;omega
  have Jb:IntKind.u64.wrap ((p.points.map kP.cs).length:Int)=(p.points.length:Int):=by rw[hlen];exact ot (by omega) (by omega)
  have X5:IntKind.u64.wrap (i:Int)=(i:Int):=ot (by omega) (by omega)
  have X4:IntKind.i64.wrap (k:Int)=(k:Int):=IntWalk.i64_in _ (by omega)
  rw[←RZ]at w9
  have Tu:aM p (k:Nat)=p.points[k]:=by unfold aM;rw[fI,aG,aa hk];rfl
  have hx:(p.points.map kP.cs)[k]? =some (aM p (k:Nat)).cs:=by rw[az,aa hk,Tu];rfl
  have BI:=ha _ (an hk)
  rw[←Tu]at BI
  have cT:=ih (i+1)
  have Qd:p.points.set k ⟨(aM p (k:Nat)).from_,(aM p (k:Nat)).to,(aM p (k:Nat)).ax.eraseIdx (pa (aM p (k:Nat)).ax.length iz)⟩=(jT p nm k (pa (aM p (k:Nat)).ax.length iz)).points:=rfl
  have Dj:∀z,dropFd p at_ p.points.length 0=some k→jT p nm k (pa (aM p (k:Nat)).ax.length iz)=z→nO p nm at_ iz=.fo [Ag z.cs,C1 (.int .i64 (k:Int)),C1 (.bool true)]:=fun z h1 h2=>by unfold nO;rw[h1];show ST.fo [Ag (jT p nm k _).cs,_,_]=_;rw[h2]
  obtain⟨x,OA⟩:∃x,x=aM p (k:Nat):=⟨_,rfl⟩
  rw[←OA]at hx BI w9 Qd Dj
  clear Tu RZ ih VL
  by_cases hn:1 < x.ax.length
  ·rw[if_pos hn]at w9
   have WA:=NO (x:=iz) (n:=(x.ax.length:Int)) (by omega) (by omega)
   obtain⟨m,VS⟩:∃m,m=pa x.ax.length iz:=⟨_,rfl⟩
   have hm:m < x.ax.length:=by rw[VS];unfold pa;omega
   have OG:(IntKind.u64.wrap iz).tmod (x.ax.length:Int)=(m:Int):=by rw[VS];unfold pa;omega
   have X3:IntKind.u64.wrap ((x.ax.map bD.cs).length:Int)=(x.ax.length:Int):=by rw[ak];exact ot (by omega) (by omega)
   have Y3:IntKind.i64.wrap (m:Int)=(m:Int):=IntWalk.i64_in _ (by omega)
   rw[←VS]at Qd Dj
   have nM:nO p nm at_ iz=.fo [Ag [.str nm,bL p.aW,.slice false 3 ((p.points.map kP.cs).set k [.str x.from_,.str x.to,.slice false 4 ((x.ax.map bD.cs).take m++(x.ax.map bD.cs).drop (m+1))])],C1 (.int .i64 (k:Int)),C1 (.bool true)]:=by
    rw[Dj _ w9.symm rfl]
    show ST.fo [Ag [.str nm,bL p.aW,lZ (jT p nm k m).points],_,_]=_
    rw[←Qd]
    show ST.fo [Ag [.str nm,bL p.aW,.slice false 3 ((p.points.set k _).map kP.cs)],_,_]=_
    rw[List.map_set,←List.map_take,←List.map_drop,←bg,←List.eraseIdx_eq_take_drop_succ]
   rw[nM]
   clear nM Dj Qd w9 VS WA cT
   have Oz:(x.ax.map bD.cs).length=x.ax.length:=by simp
   repeat'(first|(exfalso;simp only[ak]at hb;omega)|(refine o6 10 J ?_;refine mX 166 J J fun v2=>?_;refine se (ι:=Value) [13,16] [166] XQ (XO p nm v v2 k x m) v2 mix J (fun k x hk=>by match k,hk with|0,_|1,_=>(refine e6 ?_;repeat (first|exact trivial|refine⟨rfl,?_⟩))) J (fun k x=>by match k with|0|1|_+2=>rfl) J J (by simp) J J ?_;refine iY th J ?_)|refine aA ?_|(refine aB ?_ ?_<;>first|exact aD|(refine aE ?_;intro hb))|(refine JR J J J J J J (IntKind.u64.wrap (IntKind.u64.wrap at_+(i:Int))) (by rw[X5]) ?_;refine ao th J ?_)|(refine Er J J J J J J (k:Int) (by rw[Jb];omega) (by rw[Jb];exact gv) ?_;refine ao th J ?_;rw[X4])|(refine Er J J J J J J (m:Int) (by rw[X3];omega) (by rw[X3];exact OG) ?_;refine ao th J ?_;rw[Y3])|((first|refine bO th J J J J J J J J J k _ J hx ?_|(refine JJ th J J J J J J J J m J (by simp;omega) ?_));refine ao th J ?_)|(refine sS th 166 J J J J J J J J J J J J J J (by constructor<;>simp<;>omega) ?_;refine ao th J ?_)|((first|refine U3 th J J J J J J J J J J k _ J hx ?_|(refine SB (r:=200) th J J J J J J J J J J J 0 J k J (by simp;omega) ?_)|(refine L4 (r:=200) (c:=0) th J J J J J J J J J J (by simp;omega) ?_)|refine U4 J J J J J J J ((m:Int)+1) J (by omega) ?_|(refine Dv th J J J J J J J J J J (m+1) (by omega) (by simp;omega) ?_));refine iY th J ?_))
   refine FOps.nil ?_
   refine⟨gY.cons rfl (fun x=>?_) (gY.cons rfl (fun x=>?_) gY.nil),fun w=>?_⟩
   ·exact ng (i:=166) th J J J J J J J J J J J J J J J J 0 J (by constructor<;>simp<;>omega) (fun w=>w) (fun _=>rfl) (fun _=>rfl)
   ·exact FK (i:=200) (j:=k) th _ J J J J J J J J J J J J J J 0 J hx J J
   repeat'(first|refine aA ?_|(refine aB ?_ ?_<;>first|exact aD|(refine aE ?_;intro hb))|fail)
   refine IH 166 200 ((p.points.map kP.cs).set k [.str x.from_,.str x.to,.slice false 4 ((x.ax.map bD.cs).take m++(x.ax.map bD.cs).drop (m+1))]) J J J J J J (MS.TU (.cons (.refl _) (.cons (.refl _) (.cons (.row ah) (.refl _)))) _ _) ?_
   refine zJ 200 8 2 J J J J J J J ?_
   refine aZ th Tryz.func22 (.inr ⟨_,rfl⟩) J J J ?_ rfl
   exact .refl _
  ·rw[if_neg hn]at w9
   have cT:=cT ⟨bj,w9⟩ (by omega)
   clear w9 Dj Qd
   repeat'(first|(exfalso;simp only[ak]at hb;omega)|refine aA ?_|(refine aB ?_ ?_<;>first|exact aD|(refine aE ?_;intro hb))|(refine JR J J J J J J (IntKind.u64.wrap (IntKind.u64.wrap at_+(i:Int))) (by rw[X5]) ?_;refine ao th J ?_)|(refine Er J J J J J J (k:Int) (by rw[Jb];omega) (by rw[Jb];exact gv) ?_;refine ao th J ?_;rw[X4])|((first|refine bO th J J J J J J J J J k _ J hx ?_|refine bH J J J J J J (by omega) ?_);refine ao th J ?_))
   exact aS cT
 ·have OO:i=p.points.length:=by omega
  subst OO
  rw[Nat.sub_self]at w9
  have nM:nO p nm at_ iz=.fo [Ag [.str nm,bL p.aW,lZ p.points],C1 (.int .i64 0),C1 (.bool false)]:=by
   unfold nO;rw[←w9];rfl
  rw[nM]
  clear w9 nM ih
  repeat'(first|(exfalso;simp only[ak]at hb;omega)|refine aA ?_|(refine aB ?_ ?_<;>first|exact aD|(refine aE ?_;intro hb))|fail)
  refine zJ 200 8 2 J J J J J J J ?_
  refine aZ th Tryz.func22 (.inr ⟨_,rfl⟩) J J J ?_ rfl
  exact .refl _
end Go.Sy
set_option linter.unusedSimpArgs false
set_option linter.unusedVariables false
set_option linter.unusedSectionVars false
namespace Go.Sy
open Go.Proofs
set_option maxRecDepth 100000
attribute [local irreducible] SOps Goes DOps EOps
end Go.Sy
set_option linter.unusedSimpArgs false
set_option linter.unusedVariables false
set_option linter.unusedSectionVars false
namespace Go.Sy
structure Vs(n:Int)(e:Edge):Prop where
 label:e.label∈kj
 next:0≤e.next∧e.next < n
 sort:oz e.kind e.at_ n=true
theorem QZ(x y:ByteArray):gQ x y=Op.bytesLess x.data.toList y.data.toList:=by simp only[gQ,ByteArray.toList_eq]
end Go.Sy
set_option linter.unusedSimpArgs false
set_option linter.unusedVariables false
set_option linter.unusedSectionVars false
namespace Go.Sy
open Go.Proofs
set_option maxRecDepth 100000
attribute [local irreducible] SOps Goes DOps EOps
theorem I6.le{P:Program}{f:FuncId}{pre post:List (List CT)}{args:List SV}{Q Q':ST→Prop}(h:I6 P f pre args Q post)(hq:∀r,Q r→Q' r):I6 P f pre args Q' post:=
 ⟨h.ok,fun w M0 H Z vs h1 h2=>(h.calls w M0 H Z vs h1 h2).mono fun e w' he=>by
  obtain⟨r,h3,h4⟩:=he
  exact⟨r,hq r h3,h4⟩⟩
structure NInv(n:Int)(i:Nat)(ns:List Nd):Prop where
 le:(i:Int)≤n
 len:ns.length=i
 ok:∀x∈ns,ig n x=true
structure EInv(n many:Int)(i:Nat)(es:List Edge):Prop where
 le:(i:Int)≤many
 len:es.length=i
 ok:∀e∈es,Vs n e
def xE:Edge:=⟨⟨#[120]⟩,0,0,4⟩
def yE:Edge:=⟨⟨#[121]⟩,0,0,4⟩
def iv:Bk:=⟨[⟨1,⟨#[98]⟩,[xE,yE]⟩,⟨1,⟨#[98]⟩,[xE]⟩,⟨2,⟨#[98]⟩,[xE]⟩,⟨2,⟨#[98]⟩,[xE,yE]⟩,⟨0,⟨#[]⟩,[]⟩],[],[]⟩
abbrev Bv(l:List Edge):CT:=.slice true 4 (l.map Edge.cs)
theorem LM:er Tryz.prog 60 [] [] (.v (Ag [.slice true 3 [[.int .i64 1,.str ⟨#[98]⟩,Bv [xE,yE]],[.int .i64 1,.str ⟨#[98]⟩,Bv [xE]],[.int .i64 2,.str ⟨#[98]⟩,Bv [xE]],[.int .i64 2,.str ⟨#[98]⟩,Bv [xE,yE]],[.int .i64 0,.str ⟨#[]⟩,.bA]],.bA,.bA])) []:=by
 refine bn (c:=_) Tryz.func60 rfl rfl rfl (by decide) fun w M0 H Z=>?_
 repeat'(first|refine aA ?_|(refine aB ?_ ?_<;>first|exact aD|(refine aE ?_;intro hb))|((first|refine fa 7 J J ?_|refine fa 10 J J ?_|refine fa 13 J J ?_|refine fa 17 J J ?_);refine ao th J ?_)|(refine dY 20 J J ?_)|refine aZ th Tryz.func60 (.inr ⟨_,rfl⟩) J J J ?_ rfl)
 all_goals exact .refl _
theorem O1:er Tryz.prog 60 [] [] (.v (Ag iv.cs)) []:=by
 refine(LM.le (res':=.v (Ag [.slice true 3 (iv.nodes.map Nd.cs),.slice false 1 [],.slice false 1 []])) ?_).le ?_
 ·refine .v (.agg (.cons (.c (GF ?_)) (.cons (.c (.nil 1)) (.cons (.c (.nil 1)) .nil))))
  refine .cons (.cons (.refl _) (.cons (.refl _) (.cons (.nn true 4 _) .nil))) (.cons (.cons (.refl _) (.cons (.refl _) (.cons (.nn true 4 _) .nil))) (.cons (.cons (.refl _) (.cons (.refl _) (.cons (.nn true 4 _) .nil))) (.cons (.cons (.refl _) (.cons (.refl _) (.cons (.nn true 4 _) .nil))) (.cons (.cons (.refl _) (.cons (.refl _) (.cons (.nil 4) .nil))) .nil))))
 ·exact .v (.agg (.cons (.c (.nn true 3 _)) (.cons (.refl _) (.cons (.refl _) .nil))))
theorem TN:gQ ⟨#[120]⟩ ⟨#[121]⟩=true:=by rw[QZ];decide
theorem lB:eJ iv=true:=by
 have h1:cg ⟨#[98]⟩=true:=by decide
 have h2:cg ⟨#[120]⟩=true:=by decide
 have h3:cg ⟨#[121]⟩=true:=by decide
 simp[eJ,iv,ig,Ab,wy,xE,yE,oz,h1,h2,h3,TN,List.range,List.range.loop]
theorem uu:iM iv 0 1=some [(0,1),(4,4)]:=by
 unfold iM
 rw[if_pos (by rw[lB];decide)]
 decide
theorem LQ:E7 iv 0 1=true:=by rw[E7,uu];rfl
theorem LP:E7 iv 1 0=false:=by
 unfold E7 iM
 rw[if_pos (by rw[lB];decide)]
 decide
theorem LO:E7 iv 2 3=true:=by
 unfold E7 iM
 rw[if_pos (by rw[lB];decide)]
 decide
theorem LN:E7 iv 3 2=false:=by
 unfold E7 iM
 rw[if_pos (by rw[lB];decide)]
 decide
theorem Ds:oT iv [(0,1),(4,4)]=true:=by
 unfold oT
 rw[lB]
 decide
theorem G4:er Tryz.prog 20 [] [] (Rv (.bool true)) []:=by
 have YC:=Im iv 0 1;rw[LQ]at YC
 have V0:=Im iv 1 0;rw[LP]at V0
 have YB:=Im iv 2 3;rw[LO]at YB
 have YA:=Im iv 3 2;rw[LN]at YA
 have hp:=AD iv 0 1;rw[uu]at hp
 have hh:=OE iv [(0,1),(4,4)];rw[Ds]at hh
 simp only[uB,gk,lI]at hp
 refine bn (c:=_) Tryz.func20 rfl rfl rfl (by decide) fun w M0 H Z=>?_
 repeat'(first|refine aA ?_|(refine aB ?_ ?_<;>first|exact aD|(refine aE ?_;intro hb))|((first|refine aR O1 [] J J J J J J J J J J ?_|refine aR YC [] J J J J J J J J J J ?_|refine aR V0 [] J J J J J J J J J J ?_|refine aR YB [] J J J J J J J J J J ?_|refine aR YA [] J J J J J J J J J J ?_|refine aR hp [] J J J J J J J J J J ?_|refine aR hh [] J J J J J J J J J J ?_|refine bO th J J J J J J J J J 0 _ J J ?_|refine bO th J J J J J J J J J 1 _ J J ?_|refine QY th J J J Tryz.eqGuardType132 (.inl rfl) J J J J J ?_);refine ao th J ?_)|(exfalso;revert hb;decide))
 refine aZ th Tryz.func20 (.inr ⟨_,rfl⟩) J J J (.refl _) J
end Go.Sy
