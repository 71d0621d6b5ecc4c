/- Contracts of the reference, bundle Bw1. -/
import Derived.Test.YtdjocfajcbhmgaaGreatDoorAu
import Derived.Test.YtdjocfajcbhmgaaGreatDoorBl2
import Derived.Test.YtdjocfajcbhmgaaGreatDoorBu2
import Derived.Test.YtdjocfajcbhmgaaGreatDoorBu3
import Derived.Test.YtdjocfajcbhmgaaGreatDoorZ12
import Derived.Test.YtdjocfajcbhmgaaGreatDoorZ1
import Derived.Test.YtdjocfajcbhmgaaGreatDoorBu1
import Derived.Test.YtdjocfajcbhmgaaGreatDoorSy8
set_option maxHeartbeats 64000000
set_option linter.unusedSimpArgs false
set_option linter.unusedVariables false
set_option linter.unusedSectionVars false
namespace Go.Sy
open Go.Proofs
set_option maxRecDepth 100000
attribute [local irreducible] SOps Goes DOps EOps
def ix(p:b7):Prop:=∀x∈p.points,Hs x.ax
theorem St{p:b7}(h:ix p):pt (Su p):=fun t ht=>by
 obtain⟨x,hx,rfl⟩:=aL.1 (show t∈List.map BC p.points from ht)
 rw[Kc];exact h x hx
theorem FJ{x:kP}(h:¬x.from_=⟨#[]⟩∨¬x.to=⟨#[]⟩∨(0:Int) < (x.ax.length:Int)):BC x=⟨1,x.to,x.ax⟩:=by
 unfold BC nb
 rw[if_neg]
 rcases h with h|h|h
 ·simp[h]
 ·simp[h]
 ·rw[l9,decide_eq_true h];simp
theorem Pc{x:kP}(h1:x.from_=⟨#[]⟩)(h2:x.to=⟨#[]⟩)(h3:¬(0:Int) < (x.ax.length:Int)):BC x=⟨0,⟨#[]⟩,x.ax⟩:=by
 unfold BC nb
 rw[if_pos]
 rw[l9,decide_eq_false h3,decide_eq_true h1,decide_eq_true h2];rfl
theorem O0(p:b7)(hl:p.points.length≤24):er Tryz.prog 67 [] [Ag p.cs] (.v (Ag (Su p).cs)) []:=by
 refine bn (c:=_) Tryz.func67 rfl rfl rfl (by decide) fun w M0 H Z=>?_
 repeat'(first|refine aA ?_|(refine aB ?_ ?_<;>first|exact aD|(refine aE ?_;intro hb))|fail)
 refine kv 3 1 200 39 3 J J J J ?_
 refine bE (fun k:Nat=>k≤p.points.length)
  (fun k=>[(1,.v (.one (.ptr 1 0))),(2,.v (.one (.ptr 2 0))),(3,.v (.one (.ptr 3 0))),(8,.v (C1 (lZ p.points))),(9,.v (C1 (.int .i64 (p.points.length:Int)))),(10,.v (C1 (.int .i64 (k:Int))))])
  (fun k=>[(200,.arr false 39 3 (((p.points.take k).map BC).map jk.cs)),(3,.box [.c (.str ⟨#[]⟩),.own 200]),(2,.box [.c (.str ⟨#[]⟩),.c .bA]),(1,.box (p.cs.map SC.c))])
  (fun k=>p.points.length - k) 0 (aF _)
  aH (fun k hk ih=>?_)
 by_cases bj:k < p.points.length
 ·have hx:(p.points.map kP.cs)[k]? =some (p.points[k]).cs:=by simp[bj]
  have BE:((p.points.take (k+1)).map BC).map jk.cs=((p.points.take k).map BC).map jk.cs++[(BC p.points[k]).cs]:=by
   rw[al bj,bg,bg];rfl
  have cT:=ih (k+1) bj (by omega)
  rw[BE]at cT
  have Tp:(p.points.take k).length=k:=by simp;omega
  repeat'(first|refine aA ?_|(refine aB ?_ ?_<;>first|exact aD|(refine aE ?_;intro hb))|(refine bO th J J J J J J J J J k _ J hx ?_;refine ao th J ?_)|(refine nB 3 1 J ?_;refine eo th J J J J J J J J J J J J J J J (by constructor<;>simp[Tp]<;>omega) ?_;refine ao th J ?_)|(refine bH J J J J J J (by omega) ?_;refine ao th J ?_))
  all_goals first
   |rw[FJ (.inl (by assumption))]at cT
   |rw[FJ (.inr (.inl (by assumption)))]at cT
   |rw[FJ (.inr (.inr (by assumption)))]at cT
   |rw[Pc (by assumption) (by assumption) (by assumption)]at cT
  all_goals exact aS cT
 ·rw[show p.points.take k=p.points from bC (by omega)]
  repeat'(first|(refine dY 200 J J ?_)|refine aA ?_|(refine aB ?_ ?_<;>first|exact aD|(refine aE ?_;intro hb))|fail)
  refine aZ th Tryz.func67 (.inr ⟨_,rfl⟩) J J J ?_ rfl
  exact .refl _
theorem all_false{α:Type}{f:α→Bool}{l:List α}{i:Nat}(hi:i < l.length)(h:f l[i]=false):l.all f=false:=dC.2 ⟨l[i],an hi,by rw[h];decide⟩
theorem DX{α:Type}{f:α→Bool}{l:List α}{i:Nat}(hi:i < l.length)(b6:(l.take i).all f=true)(h:f l[i]=true):(l.take (i+1)).all f=true:=by
 rw[al hi,dR,b6];simp[h]
theorem Dx(x:kP):nb x=(decide (x.from_=⟨#[]⟩)&&(decide (x.to=⟨#[]⟩)&&decide ((x.ax.length:Int)=0))):=by
 unfold nb
 cases h:x.ax<;>simp
 intro _ _;omega
section
variable {aW:List ByteArray} {x:kP}
theorem Nz(h1:x.from_=⟨#[]⟩)(h2:x.to=⟨#[]⟩)(h3:(x.ax.length:Int)=0):nC aW x=true:=by
 unfold nC;rw[Dx,decide_eq_true h1,decide_eq_true h2,decide_eq_true h3];rfl
theorem vu(h:¬x.from_=⟨#[]⟩∨¬x.to=⟨#[]⟩∨¬(x.ax.length:Int)=0):nb x=false:=by
 rw[Dx]
 rcases h with h|h|h
 ·rw[decide_eq_false h];rfl
 ·rw[decide_eq_false h];simp
 ·rw[decide_eq_false h];simp
theorem JX(h:¬x.from_=⟨#[]⟩∨¬x.to=⟨#[]⟩∨¬(x.ax.length:Int)=0)(h1:hasB aW x.from_=false):nC aW x=false:=by
 unfold nC;rw[vu h,h1];rfl
theorem JW(h:¬x.from_=⟨#[]⟩∨¬x.to=⟨#[]⟩∨¬(x.ax.length:Int)=0)(h1:hasB aW x.to=false):nC aW x=false:=by
 unfold nC;rw[vu h,h1];simp
theorem JV(h:¬x.from_=⟨#[]⟩∨¬x.to=⟨#[]⟩∨¬(x.ax.length:Int)=0)(h1:x.from_=x.to):nC aW x=false:=by
 unfold nC;rw[vu h,decide_eq_false (p:=x.from_≠x.to) (fun h2=>h2 h1)];simp
theorem JU(h:¬x.from_=⟨#[]⟩∨¬x.to=⟨#[]⟩∨¬(x.ax.length:Int)=0)(h1:hasB aW x.from_=true)(h2:hasB aW x.to=true)(h3:¬x.from_=x.to):nC aW x=true:=by
 unfold nC;rw[vu h,h1,h2,decide_eq_true (p:=x.from_≠x.to) h3];rfl
end
theorem xf(p:b7)(hB:ix p):er Tryz.prog 53 [] [Ag p.cs] (Rv (.bool (dj p))) []:=by
 rw[←NP]
 refine bn (c:=_) Tryz.func53 rfl rfl rfl (by decide) fun w M0 H Z=>?_
 repeat'(first|(refine Bj 1 1 J J fun nw=>?_;simp only[ak]at nw;refine mY ?_;refine ao th J ?_)|refine aA ?_|(refine aB ?_ ?_<;>first|exact aD|(refine aE ?_;intro hb))|refine aZ th Tryz.func53 (.inr ⟨_,rfl⟩) J J J ?_ rfl|((first|refine aR (qq p.name) [] J J J J J J J J J J ?_|refine aR (Ri p.aW) [] J J J J J J J J J J ?_);refine ao th J ?_))
 ·exact fx (by unfold sd;simp[*])
 ·exact fx (by unfold sd;rw[decide_eq_false (p:=2≤p.aW.length) (by omega)];simp)
 ·exact fx (by unfold sd;rw[decide_eq_false (p:=p.aW.length≤5) (by omega)];simp)
 ·exact fx (by unfold sd;simp[*])
 ·exact fx (by unfold sd;rw[decide_eq_false (p:=p.points.length≤24) (by omega)];simp)
 have Eb:cg p.name=true:=by assumption
 have qt:rU p.aW=true:=by assumption
 have Is:decide (2≤p.aW.length)=true:=decide_eq_true (by omega)
 have Ya:decide (p.aW.length≤5)=true:=decide_eq_true (by omega)
 have Uu:decide (p.points.length≤24)=true:=decide_eq_true (by omega)
 have hg:sd p=(p.aW.all cg&&(p.points.all (nC p.aW)&&fP (Su p))):=by
  unfold sd;rw[Eb,Is,Ya,qt,Uu];simp
 rw[hg]
 have Ut:p.points.length≤24:=by omega
 have hr5':p.aW.length≤5:=by omega
 clear hg Eb qt Is Ya Uu
 refine bE (fun i:Nat=>i≤p.aW.length∧(p.aW.take i).all cg=true)
  (fun i=>[(1,.v (.one (.ptr 1 0))),(36,.v (C1 (bL p.aW))),(37,.v (C1 (.int .i64 (p.aW.length:Int)))),(38,.v (C1 (.int .i64 (i:Int))))])
  (fun i=>[(1,.box (p.cs.map SC.c))])
  (fun i=>p.aW.length - i) 0 ⟨aF _,rfl⟩
  aH (fun i hi ih=>?_)
 obtain⟨hi,b6⟩:=hi
 by_cases bj:i < p.aW.length
 ·have hx:(p.aW.map fun s=>[CT.str s])[i]? =some [.str p.aW[i]]:=by simp[bj]
  repeat'(first|refine aA ?_|(refine aB ?_ ?_<;>first|exact aD|(refine aE ?_;intro hb))|refine aZ th Tryz.func53 (.inr ⟨_,rfl⟩) J J J ?_ rfl|((first|refine bO th J J J J J J J J J i _ J hx ?_|refine aR (qq p.aW[i]) [] J J J J J J J J J J ?_|refine bH J J J J J J (by omega) ?_);refine ao th J ?_))
  ·exact fx (by rw[all_false bj (by assumption)];rfl)
  ·exact aS (ih (i+1) ⟨bj,DX bj b6 (by assumption)⟩ (by omega))
 have gv:i=p.aW.length:=by omega
 rw[gv,bq]at b6
 rw[b6,bZ]
 repeat'(first|refine aA ?_|(refine aB ?_ ?_<;>first|exact aD|(refine aE ?_;intro hb))|fail)
 refine bE (fun i:Nat=>i≤p.points.length∧(p.points.take i).all (nC p.aW)=true)
  (fun i=>[(1,.v (.one (.ptr 1 0))),(47,.v (C1 (lZ p.points))),(48,.v (C1 (.int .i64 (p.points.length:Int)))),(49,.v (C1 (.int .i64 (i:Int))))])
  (fun i=>[(1,.box (p.cs.map SC.c))])
  (fun i=>p.points.length - i) 0 ⟨aF _,rfl⟩
  aH (fun i hi ih=>?_)
 obtain⟨hi,b6⟩:=hi
 by_cases bj:i < p.points.length
 ·have hx:(p.points.map kP.cs)[i]? =some (p.points[i]).cs:=by simp[bj]
  obtain⟨x,Ip⟩:∃x,x=p.points[i]:=⟨_,rfl⟩
  rw[←Ip]at hx
  have fQ:nC p.aW x=false→p.points.all (nC p.aW)=false:=fun h=>all_false bj (by rw[←Ip];exact h)
  have fJ:nC p.aW x=true→(p.points.take (i+1)).all (nC p.aW)=true:=fun h=>DX bj b6 (by rw[←Ip];exact h)
  clear Ip
  repeat'(first|refine aA ?_|(refine aB ?_ ?_<;>first|exact aD|(refine aE ?_;intro hb))|refine aZ th Tryz.func53 (.inr ⟨_,rfl⟩) J J J ?_ rfl|((first|refine bO th J J J J J J J J J i _ J hx ?_|refine aR (Dn p.aW x.from_) [] J J J J J J J J J J ?_|refine aR (Dn p.aW x.to) [] J J J J J J J J J J ?_|refine bH J J J J J J (by omega) ?_);refine ao th J ?_))
  all_goals first
   |exact fx (by rw[fQ (JX (by first|exact .inl (by assumption)|exact .inr (.inl (by assumption))|exact .inr (.inr (by assumption))) (by assumption))];rfl)
   |exact fx (by rw[fQ (JW (by first|exact .inl (by assumption)|exact .inr (.inl (by assumption))|exact .inr (.inr (by assumption))) (by assumption))];rfl)
   |exact fx (by rw[fQ (JV (by first|exact .inl (by assumption)|exact .inr (.inl (by assumption))|exact .inr (.inr (by assumption))) (by assumption))];rfl)
   |(have cT:=ih (i+1) ⟨bj,fJ (Nz (by assumption) (by assumption) (by assumption))⟩ (by omega)
     exact aS cT)
   |(have cT:=ih (i+1) ⟨bj,fJ (JU (by first|exact .inl (by assumption)|exact .inr (.inl (by assumption))|exact .inr (.inr (by assumption))) (by assumption) (by assumption) (by assumption))⟩ (by omega)
     exact aS cT)
 have gv:i=p.points.length:=by omega
 rw[gv,bq]at b6
 rw[b6,bZ]
 repeat'(first|refine aA ?_|(refine aB ?_ ?_<;>first|exact aD|(refine aE ?_;intro hb))|refine aZ th Tryz.func53 (.inr ⟨_,rfl⟩) J J J ?_ rfl|((first|refine aR (O0 p Ut) [] J J J J J J J J J J ?_|refine aR (An (Su p) (St hB)) [] J J J J J J J J J J ?_);refine ao th J ?_))
 exact .refl _
end Go.Sy
namespace Go.Sy
open Go.Proofs Go.RowKit
set_option maxRecDepth 100000
attribute [local irreducible] Goes DOps EOps FOps
section
variable {C:Ctx} {n:Nat} {tm:TM} {mm:MM} {L l:List Oper} {T:TM→MM→Prop} {o:Oper} {d:Nat}
theorem sR{Θ:da}(bt:a8 C.P Θ){t:TypeId}{x y:Operand}{z cz e:Nat}{ag:Bool}{zt:Option (List CT)}{ei:fN}{zr:List CT}{i:Nat}{uh:Bool}{sz:Nat}{xs ys:List (List CT)}{qs:PQ}{v:Value}
 (ho:o.op=.call {callee:=.builtin .append,args:=⟨[x,y]⟩,argTypes:=⟨[t,t]⟩})(ht:aP Θ t=some ⟨z,cz,ag,zt,.slice e⟩)(dO:aP Θ e=some ei)(hz:ei.zero=some zr)
 (cM:Nat.beq ei.size sz=true)(lx:Nat.blt 0 ei.size=true)(hx:aQ tm x=some (.c (.val v)))(hi:getM mm i=some (.bF e sz qs))(hy:aQ tm y=some (.c (.slice uh sz ys)))
 (iJ:Nat.blt i given=true)(gA:eD i mm=true)(hd:o.dst=some d)(hn:Nat.blt d n=true)(hg:aY L tm o=some true)(k:Nat)(hk:qs[k]? =some (v,xs))
 (gW:xs.length+ys.length≤9223372036854775807∧(xs.length+ys.length) * ei.bytes≤140737488355328)
 (g:∀v',SOps C n L.toArray l ((d,.v (.one (.c (.val v'))))::bo (jF i tm) d) (cS mm i (.bF e sz (qs.set k (v',xs++ys)))) T):SOps C n L.toArray (o::l) tm mm T:=by
 intro a w hh
 unfold wpList
 rw[if_pos (gC (gD hg) hh)]
 refine .inl ?_
 obtain⟨v',w',dL,qg⟩:=wi bt ho ht dO hz cM lx hx hi hk hy iJ gA hd hn gW hh
 unfold Oper.wp
 rw[dL]
 exact g v' _ _ qg
end
attribute [local irreducible] SOps
def wJ(l:List Int):List (Int×CT):=l.map fun x=>(x,CT.bool true)
theorem KJ(l:List Int)(a:Int):dE (wJ l) a (.bool false)=.bool (decide (a∈l)):=by
 unfold dE wJ
 induction l with
 |nil=>simp
 |cons x l ih=>
  simp only[bN,List.find?_cons]
  by_cases h:a=x
  ·subst h;simp
  ·simp only[h,decide_false]
   rw[ih]
   simp[h]
theorem Oi{l:List Int}{a:Int}(h:a∉l):iq (wJ l) a (.bool true)=wJ (l++[a]):=by
 have hn:(wJ l).findIdx? (fun q=>decide (a=q.1))=none:=by
  rw[bx]
  intro q hq
  obtain⟨x,hx,rfl⟩:=aL.1 hq
  simpa using fun e:a=x=>h (e▸hx)
 unfold iq
 rw[hn]
 simp[wJ]
def n3(n:Nat)(l:List Int)(a:Int):List Int:=if 0≤a∧a < (n:Int)∧a∉l then l++[a]else l
abbrev gS(l:List Int):List (List CT):=l.map fun r=>[CT.int .i64 r]
def KG(p:b7)(l:List Int)(v:Value):MM:=
 [(given,.box (p.cs.map SC.c)),(given+1,.box [.mp (given+2)]),(given+2,.fw (dI tf (wJ l))),(given+3,.box [.c (.val v)]),(1,.bF 3 1 [(v,gS l)])]
theorem KN(p:b7)(l:List Int)(v:Value)(a:Int)(hl:l.length≤24):
 nV Tryz.prog 137 (KG p l v) [C1 (.int .i64 a),.one (.ptr given 0),.one (.ptr (given+1) 0),.one (.ptr (given+3) 0)]
  (fun _:Value=>True) (fun _=>.fo []) (fun v'=>KG p (n3 p.points.length l a) v'):=by
 have uV:=KJ l a
 by_cases hm:0≤a∧a < (p.points.length:Int)∧a∉l
 ·rw[show n3 p.points.length l a=l++[a]from if_pos hm]
  have kK:=Oi hm.2.2
  have jh:gS l++[[CT.int .i64 a]]=gS (l++[a]):=by simp
  refine jH (c:=_) Tryz.func137 rfl rfl rfl (by decide) J fun w M0 H Z hd=>?_
  repeat'(first|refine aA ?_|(refine aB ?_ ?_<;>first|exact aD|(refine aE ?_;intro hb))|((first|(refine Aq th (m:=wJ l) J J J J J J J J J J J J ?_;rw[uV])|(refine Ap th (m:=wJ l) (.inl rfl) J J J J J J J J ?_;rw[kK]));refine ao th J ?_)|(refine fa 24 J J ?_;refine sR th (i:=1) J J J J J J J J J J J J J J 0 J (by constructor<;>simp<;>omega) (fun v'=>?_);refine ao th J ?_))
  all_goals first
   |(exfalso;revert hb;simp[hm];done)|(exfalso;omega)
   |(rename_i v'
     simp only[List.set_cons_zero]
     rw[jh]
     exact gq (hd:=hd) th Tryz.func137 v' (.inl rfl) J J J J ⟨rfl,rfl,rfl,rfl,rfl,trivial⟩ rfl rfl rfl trivial)
 ·rw[show n3 p.points.length l a=l from if_neg hm]
  refine jH (c:=_) Tryz.func137 rfl rfl rfl (by decide) J fun w M0 H Z hd=>?_
  repeat'(first|refine aA ?_|(refine aB ?_ ?_<;>first|exact aD|(refine aE ?_;intro hb))|(refine Aq th (m:=wJ l) J J J J J J J J J J J J ?_;rw[uV];refine ao th J ?_))
  ·exact absurd ⟨by assumption,by assumption,by assumption⟩ hm
  all_goals exact gq (hd:=hd) th Tryz.func137 v (.inl rfl) J J J J ⟨rfl,rfl,rfl,rfl,rfl,trivial⟩ rfl rfl rfl trivial
end Go.Sy
set_option linter.unusedSimpArgs false
set_option linter.unusedVariables false
set_option linter.unusedSectionVars false
namespace Go.Sy
open Go.RowKit
section
variable {C:Ctx} {n:Nat} {L:List Oper} {tm:TM}
end
section
variable {C:Ctx} {n:Nat} {L l:List Oper} {o:Oper} {d:Nat}
variable {ι:Type} {cN:TM} {ET:Nat→ι→TM} {MMx:Nat→ι→MM} {k:Nat} {x:ι}
variable {tm cq:TM} {E:List Nat} {i:Nat} {mmf:Nat→MM} {TF:TM→Prop} {p q:Operand} {ty rk:TypeId}
end
section
variable {C:Ctx} {n:Nat} {tm:TM} {mm:MM} {o:Oper} {d:Nat} {x y:Operand}
end
section
variable {C:Ctx} {n:Nat} {tm:TM} {mm:MM} {L l:List Oper} {T:TM→MM→Prop} {o:Oper} {d:Nat} {x y:Operand}
end
section
variable {C:Ctx} {n:Nat} {tm cq:TM} {mm:MM} {L l:List Oper} {T:TM→Prop} {o:Oper} {d:Nat} {x y:Operand} {ty rk:TypeId}
end
theorem JQ{C:Ctx}{n:Nat}{tm:TM}{mm:MM}{L l:List Oper}{T:TM→MM→Prop}{o:Oper}{d:Nat}{e:TypeId}{zv:Value}(hz:∀w,(zeroValue e).run C.P w=.ok zv w)(h1:zv.oneCell'=true)(hc:zv.cells=#[zv])
 (ho:o.op=.alloc e)(hi:getM mm d=none)(hd:o.dst=some d)(hn:Nat.blt d n=true)(hg:aY L tm o=some true)
 (k:SOps C n L.toArray l ((d,.v (.one (.ptr d 0)))::bo tm d) ((d,.box [.any])::mm) T):SOps C n L.toArray (o::l) tm mm T:=by
 have h:xX C n o tm mm ((d,.v (.one (.ptr d 0)))::bo tm d) ((d,.box [.any])::mm):=by
  intro a w ⟨H,Z,hm⟩
  obtain⟨H',Z',h3⟩:=hm.EX hi (a6.mp hn) e zv.cells [.any] (by rw[hc];rfl) (fun j c GU=>by
   match j,GU with
   |0,GU=>simp at GU;subst GU;exact⟨zv,by rw[hc];rfl,h1,trivial⟩
   |j+1,GU=>simp at GU)
  refine .inl ⟨_,_,?_,H',Z',by rw[hd];exact h3⟩
  simp[execOp,ho,Instr.alloc,hz,newVar,newRow,newObj,Sem.run]
 exact cB h.wp hg k
section
variable {C:Ctx} {n:Nat} {tm:TM} {mm:MM} {L l:List Oper} {T:TM→MM→Prop} {o:Oper} {d:Nat} {x:Operand}
theorem Gn{Θ:da}(bt:a8 C.P Θ){t:TypeId}{z cz e:Nat}{ag:Bool}{zr:Option (List CT)}{i c e' sz:Nat}{qs:PQ}{v:Value}{xs:List (List CT)}
 (ho:o.op=.call {callee:=.builtin .len,args:=#[x],argTypes:=#[t]})(ht:aP Θ t=some ⟨z,cz,ag,zr,.slice e⟩)
 (hx:aQ tm x=some (.c (.val v)))(hi:getM mm i=some (.bF e' sz qs))(hk:qs[c]? =some (v,xs))(hd:o.dst=some d)(hn:Nat.blt d n=true):
 ea C n o tm mm d (.v (.one (.c (.int .i64 (xs.length:Int))))):=
 ea.val hd hn _ fun H Z a w dh=>by
  obtain⟨inf,de,hf⟩:=gI bt ht
  have jL:de=.slice e:=by
   have:=hf.sh
   cases de<;>simp[dA]at this⊢
   exact this
  subst jL
  obtain⟨_,c6⟩:=dh.mem _ (aT hi)
  have c6:eF w (cO C H mm) e' sz qs:=c6
  obtain⟨us,g1,_,_⟩:=c6.row hk
  have hv:=aV.gH (aU dh hx)
  have Fh:∃(ad:Option Addr) (c:Nat),a.eval x=.slice ad xs.length c:=by
   rcases g1.2 with⟨hh,hz⟩|⟨g,cap,cur,hh,_⟩
   ·rw[hv,hh,hz];exact⟨_,_,rfl⟩
   ·rw[hv,hh];exact⟨_,_,rfl⟩
  obtain⟨ad,c,hv⟩:=Fh
  refine⟨.int .i64 (xs.length:Int),?_,.int _ _⟩
  simp[execOp,ho,resolve,invoke,builtin,Builtin.len_,hf.underlying,hv,goInt]
theorem oD{Θ:da}(bt:a8 C.P Θ){t:TypeId}{z cz e:Nat}{ag:Bool}{zr:Option (List CT)}{e' sz:Nat}{qs:PQ}{v:Value}{xs:List (List CT)}(i c:Nat)
 (ho:o.op=.call {callee:=.builtin .len,args:=#[x],argTypes:=#[t]})(ht:aP Θ t=some ⟨z,cz,ag,zr,.slice e⟩)
 (hx:aQ tm x=some (.c (.val v)))(hi:getM mm i=some (.bF e' sz qs))(hk:qs[c]? =some (v,xs))(hd:o.dst=some d)(hn:Nat.blt d n=true)(hg:aY L tm o=some true)(m:Int)(hm:(xs.length:Int)=m)
 (k:SOps C n L.toArray l ((d,.v (.one (.c (.int .i64 m))))::bo tm d) mm T):SOps C n L.toArray (o::l) tm mm T:=by
 subst hm
 exact cB (Gn bt ho ht hx hi hk hd hn).wp hg k
end
section
variable {C:Ctx} {n:Nat} {tm:TM} {mm:MM} {f:FuncId} {R:Ending→World→Prop} {k:List Item}
end
section
variable {C:Ctx} {n:Nat} {tm:TM} {mm:MM} {f:FuncId} {R:Ending→World→Prop} {k:List Item}
def UP:List Item→Option Nat
 |.code (.region i _ _)::_=>some i
 |.code (.seq (.region i _ _) _)::_=>some i
 |_=>none
theorem o6(i:Nat)(_:UP k=some i)(h:Goes C f n R k tm mm):Goes C f n R k tm mm:=h
end
section
variable {C:Ctx} {n:Nat} {tm:TM} {mm:MM} {f:FuncId} {R:Ending→World→Prop} {k:List Item}
end
theorem AU{a b:Bool}(h:a=b):BL (.v (.one (.lit a))) (.v (.one (.c (.bool b)))):=by subst h;exact .v (.one (.lit _))
end Go.Sy
