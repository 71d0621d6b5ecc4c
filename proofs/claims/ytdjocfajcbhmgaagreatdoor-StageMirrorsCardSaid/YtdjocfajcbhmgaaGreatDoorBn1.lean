/- Contracts of the reference, bundle Bn1. -/
import Derived.Test.YtdjocfajcbhmgaaGreatDoorBl1
import Derived.Test.YtdjocfajcbhmgaaGreatDoorSy6
import Derived.Test.YtdjocfajcbhmgaaGreatDoorSy8
import Derived.Laws.StructEq
import Derived.Test.YtdjocfajcbhmgaaGreatDoorSy4
import Derived.Test.YtdjocfajcbhmgaaGreatDoorSy5
set_option linter.unusedSimpArgs false
set_option linter.unusedVariables false
set_option linter.unusedSectionVars false
namespace Go.Sy
open Go.Proofs
set_option maxRecDepth 100000
attribute [local irreducible] SOps Goes DOps EOps
def fb{α:Type}(p:α→Bool)(l:List α):Int:=
 match l.findIdx? p with
 |some i=>(i:Int)
 |none=>-1
theorem gX{α:Type}{p:α→Bool}{l:List α}{k:Nat}(hk:k < l.length)(ha:∀i (h:i < k),p (l[i]'(by omega))=false)(hp:p l[k]=true):fb p l=(k:Int):=by
 have:l.findIdx? p=some k:=by
  rw[bB]
  exact⟨hk,hp,fun j hj=>by simp[ha j hj]⟩
 simp[fb,this]
theorem dv{α:Type}{p:α→Bool}{l:List α}(ha:∀i (h:i < l.length),p l[i]=false):fb p l=-1:=by
 have:l.findIdx? p=none:=by
  rw[bL]
  intro x hx
  obtain⟨i,hi,rfl⟩:=aB.1 hx
  simp[ha i hi]
 simp[fb,this]
def dw(l:List ByteArray)(s:ByteArray):Int:=fb (fun x=>decide (x=s)) l
set_option maxHeartbeats 4000000 in
theorem s4(l:List ByteArray)(s:ByteArray):dy Tryz.prog 90 [] [C1 (bh l),C1 (.str s)] (Rv (.int .i64 (dw l s))) []:=by
 refine bd (c:=_) Tryz.func90 rfl rfl rfl (by decide) fun w M0 H Z=>?_
 refine gl 0 J fun mT=>?_
 simp only[aw]at mT
 repeat'(first|refine bH J ?_|(refine al ?_;refine aj th J ?_)|(refine au mix J J ?_;refine ak th J ?_)|(refine ao mix J J ?_;refine ay th J ?_)|refine SOps.nil ?_|refine DOps.nil ?_|refine EOps.nil ?_ rfl rfl|((first|refine aq J J ?_ ?_|refine av J J J ?_ ?_|refine aU J ?_ ?_)<;>intro hb<;>(try simp only[aF]at hb)<;>first|(exfalso;omega)|refine aj th J ?_|refine ak th J ?_|skip))
 refine bE (fun k:Nat=>k≤l.length∧∀i (h:i < k) (h':i < l.length),decide (l[i]=s)=false)
  (fun k=>[(0,.v (C1 (bh l))),(0+1,.v (C1 (.str s))),(7,.v (C1 (.int .i64 (l.length:Int)))),(8,.v (C1 (.int .i64 (k:Int))))])
  (fun _=>[]) (fun k=>l.length - k) 0 ⟨aM _,fun i h=>by omega⟩
  (fun a w h=>h.sub (by exact⟨⟨_,rfl,.refl _⟩,⟨_,rfl,.refl _⟩,⟨_,rfl,aC (by simp)⟩,⟨_,rfl,aC J⟩,trivial⟩) (by exact trivial) J J J) (fun k hk ih=>?_)
 obtain⟨hk,ha⟩:=hk
 by_cases bo:k < l.length
 ·have hx:(l.map fun s=>[CT.str s])[k]? =some [.str l[k]]:=by simp[bo]
  repeat'(first|refine bH J ?_|(refine al ?_;refine aj th J ?_)|(refine au mix J J ?_;refine ak th J ?_)|(refine ao mix J J ?_;refine ay th J ?_)|refine SOps.nil ?_|refine DOps.nil ?_|refine EOps.nil ?_ rfl rfl|((first|refine aq J J ?_ ?_|refine av J J J ?_ ?_|refine aU J ?_ ?_)<;>intro hb<;>(try simp only[aF]at hb)<;>first|(exfalso;omega)|refine aj th J ?_|refine ak th J ?_|skip)|refine aT th Tryz.func90 (.inr ⟨_,rfl⟩) J J J ?_ rfl|((first|refine ch th J J J J J J J J J k _ J hx ?_|refine bO J J J J J J (by omega) ?_);refine aj th J ?_))
  ·rw[show dw l s=(k:Int)from gX bo (fun i h=>ha i h (by omega)) (by simpa using hb)]
   exact .refl _
  ·exact bJ (by exact⟨⟨_,rfl,.refl _⟩,⟨_,rfl,.refl _⟩,⟨_,rfl,.refl _⟩,⟨_,rfl,aC (by omega)⟩,trivial⟩) (by exact trivial) J J J (ih (k+1) ⟨bo,fun i h h'=>by
    by_cases kJ:i=k
    ·subst kJ;simpa using hb
    ·exact ha i (by omega) h'⟩ (by omega))
 ·have gn:k=l.length:=by omega
  subst gn
  repeat'(first|refine bH J ?_|(refine al ?_;refine aj th J ?_)|(refine au mix J J ?_;refine ak th J ?_)|(refine ao mix J J ?_;refine ay th J ?_)|refine SOps.nil ?_|refine DOps.nil ?_|refine EOps.nil ?_ rfl rfl|((first|refine aq J J ?_ ?_|refine av J J J ?_ ?_|refine aU J ?_ ?_)<;>intro hb<;>(try simp only[aF]at hb)<;>first|(exfalso;omega)|refine aj th J ?_|refine ak th J ?_|skip)|refine aT th Tryz.func90 (.inr ⟨_,rfl⟩) J J J ?_ rfl)
  rw[show dw l s=-1 from dv (fun i h=>ha i h h)]
  exact .refl _
def hasB(l:List ByteArray)(s:ByteArray):Bool:=decide (0≤dw l s)
theorem Iw(l:List ByteArray)(s:ByteArray):dy Tryz.prog 54 [] [C1 (bh l),C1 (.str s)] (Rv (.bool (hasB l s))) []:=by
 refine bd (c:=_) Tryz.func54 rfl rfl rfl (by decide) fun w M0 H Z=>?_
 repeat'(first|refine bH J ?_|(refine al ?_;refine aj th J ?_)|(refine au mix J J ?_;refine ak th J ?_)|(refine ao mix J J ?_;refine ay th J ?_)|refine SOps.nil ?_|refine DOps.nil ?_|refine EOps.nil ?_ rfl rfl|((first|refine aq J J ?_ ?_|refine av J J J ?_ ?_|refine aU J ?_ ?_)<;>intro hb<;>(try simp only[aF]at hb)<;>first|(exfalso;omega)|refine aj th J ?_|refine ak th J ?_|skip)|refine aT th Tryz.func54 (.inr ⟨_,rfl⟩) J J J ?_ rfl|(refine aS (s4 l s) [] J J J J J J J J J J ?_;refine aj th J ?_))
 all_goals exact .refl _
end Go.Sy
namespace Go.Sy
open Go.Proofs
set_option maxRecDepth 100000
attribute [local irreducible] SOps Goes DOps EOps
def ry(l:List ByteArray)(i:Nat):Bool:=decide (dw l ((l[i]?).getD ⟨#[]⟩)=(i:Int))
def lR(l:List ByteArray):Bool:=(List.range l.length).all (ry l)
set_option maxHeartbeats 4000000 in
theorem Hl(l:List ByteArray):dy Tryz.prog 74 [] [C1 (bh l)] (Rv (.bool (lR l))) []:=by
 refine bd (c:=_) Tryz.func74 rfl rfl rfl (by decide) fun w M0 H Z=>?_
 refine gl 0 J fun mT=>?_
 simp only[aw]at mT
 repeat'(first|refine bH J ?_|(refine al ?_;refine aj th J ?_)|(refine au mix J J ?_;refine ak th J ?_)|(refine ao mix J J ?_;refine ay th J ?_)|refine SOps.nil ?_|refine DOps.nil ?_|refine EOps.nil ?_ rfl rfl|((first|refine aq J J ?_ ?_|refine av J J J ?_ ?_|refine aU J ?_ ?_)<;>intro hb<;>(try simp only[aF]at hb)<;>first|(exfalso;omega)|refine aj th J ?_|refine ak th J ?_|skip))
 refine bE (fun k:Nat=>k≤l.length∧∀i,i < k→ry l i=true)
  (fun k=>[(0,.v (C1 (bh l))),(5,.v (C1 (.int .i64 (l.length:Int)))),(6,.v (C1 (.int .i64 (k:Int))))])
  (fun _=>[]) (fun k=>l.length - k) 0 ⟨aM _,fun i h=>by omega⟩
  (fun a w h=>h.sub (by exact⟨⟨_,rfl,.refl _⟩,⟨_,rfl,aC (by simp)⟩,⟨_,rfl,aC J⟩,trivial⟩) (by exact trivial) J J J) (fun k hk ih=>?_)
 obtain⟨hk,ha⟩:=hk
 by_cases bo:k < l.length
 ·have hx:(l.map fun s=>[CT.str s])[k]? =some [.str l[k]]:=by simp[bo]
  have Fk:ry l k=decide (dw l l[k]=(k:Int)):=by simp[ry,bo]
  repeat'(first|refine bH J ?_|(refine al ?_;refine aj th J ?_)|(refine au mix J J ?_;refine ak th J ?_)|(refine ao mix J J ?_;refine ay th J ?_)|refine SOps.nil ?_|refine DOps.nil ?_|refine EOps.nil ?_ rfl rfl|((first|refine aq J J ?_ ?_|refine av J J J ?_ ?_|refine aU J ?_ ?_)<;>intro hb<;>(try simp only[aF]at hb)<;>first|(exfalso;omega)|refine aj th J ?_|refine ak th J ?_|skip)|refine aT th Tryz.func74 (.inr ⟨_,rfl⟩) J J J ?_ rfl|((first|refine ch th J J J J J J J J J k _ J hx ?_|refine aS (s4 l l[k]) [] J J J J J J J J J J ?_|refine bO J J J J J J (by omega) ?_);refine aj th J ?_))
  all_goals first
   |(have hf:lR l=false:=dH.2 ⟨k,cc.2 bo,by rw[Fk];simpa using hb⟩
     rw[hf];exact .refl _)
   |(rename_i hq
     exact bJ (by exact⟨⟨_,rfl,.refl _⟩,⟨_,rfl,.refl _⟩,⟨_,rfl,aC (by omega)⟩,trivial⟩) (by exact trivial) J J J (ih (k+1) ⟨bo,fun i h=>by
      by_cases kJ:i=k
      ·subst kJ;rw[Fk];simpa using hb
      ·exact ha i (by omega)⟩ (by omega)))
 ·have gn:k=l.length:=by omega
  subst gn
  repeat'(first|refine bH J ?_|(refine al ?_;refine aj th J ?_)|(refine au mix J J ?_;refine ak th J ?_)|(refine ao mix J J ?_;refine ay th J ?_)|refine SOps.nil ?_|refine DOps.nil ?_|refine EOps.nil ?_ rfl rfl|((first|refine aq J J ?_ ?_|refine av J J J ?_ ?_|refine aU J ?_ ?_)<;>intro hb<;>(try simp only[aF]at hb)<;>first|(exfalso;omega)|refine aj th J ?_|refine ak th J ?_|skip)|refine aT th Tryz.func74 (.inr ⟨_,rfl⟩) J J J ?_ rfl)
  rw[show lR l=true from aV.2 fun i hi=>ha i (cc.1 hi)]
  exact .refl _
end Go.Sy
namespace Go.Sy
open Go.Proofs
set_option maxRecDepth 100000
attribute [local irreducible] SOps Goes DOps EOps FOps
abbrev pn(l:List ByteArray):List (List CT):=l.map fun r=>[CT.str r]
abbrev Sq(l:List bM):List (List CT):=l.map bM.cs
theorem A6(l:List ByteArray)(gx:l.length * 16≤140737488355328):vR Tryz.prog 115 [C1 (bh l)] (fun _:Value=>True) (fun v=>.v (C1 (.val v))) (fun v=>[(9,1,[(v,pn l)])]):=by
 refine oH (c:=_) Tryz.func115 rfl rfl rfl (by decide) fun w M0 H=>?_
 repeat'(first|refine bH J ?_|(refine al ?_;refine aj th J ?_)|(refine au mix J J ?_;refine ak th J ?_)|(refine ao mix J J ?_;refine ay th J ?_)|refine SOps.nil ?_|refine DOps.nil ?_|refine EOps.nil ?_ rfl rfl|((first|refine aq J J ?_ ?_|refine av J J J ?_ ?_|refine aU J ?_ ?_)<;>intro hb<;>(try simp only[aF]at hb)<;>first|(exfalso;omega)|refine aj th J ?_|refine ak th J ?_|skip)|((first|refine dV J J J J ?_|refine p9 th J J J J J J J (fun b nI=>?_));refine aj th J ?_)|(refine jv th J J J J J J J J J J J J J J (by constructor<;>simp<;>omega) ?_;refine aj th J ?_))
 ·have hl:l=[]:=by simpa using nI hb
  subst hl
  refine kt 5 9 1 J J ?_
  refine l8 5 J J J J ?_
  refine yp 2 J ?_
  exact lE th Tryz.func115 [5] (.slice none 0 0) (.inr ⟨_,rfl⟩) J J J J J J trivial
 ·refine l7 5 J J fun v=>?_
  exact lE th Tryz.func115 [5] v (.inr ⟨_,rfl⟩) J J J J J J trivial
theorem sC(l:List bM)(gx:l.length * 48≤140737488355328):vR Tryz.prog 144 [C1 (kc l)] (fun _:Value=>True) (fun v=>.v (C1 (.val v))) (fun v=>[(34,4,[(v,Sq l)])]):=by
 refine oH (c:=_) Tryz.func144 rfl rfl rfl (by decide) fun w M0 H=>?_
 repeat'(first|refine bH J ?_|(refine al ?_;refine aj th J ?_)|(refine au mix J J ?_;refine ak th J ?_)|(refine ao mix J J ?_;refine ay th J ?_)|refine SOps.nil ?_|refine DOps.nil ?_|refine EOps.nil ?_ rfl rfl|((first|refine aq J J ?_ ?_|refine av J J J ?_ ?_|refine aU J ?_ ?_)<;>intro hb<;>(try simp only[aF]at hb)<;>first|(exfalso;omega)|refine aj th J ?_|refine ak th J ?_|skip)|((first|refine dV J J J J ?_|refine p9 th J J J J J J J (fun b nI=>?_));refine aj th J ?_)|(refine jv th J J J J J J J J J J J J J J (by constructor<;>simp<;>omega) ?_;refine aj th J ?_))
 ·have hl:l=[]:=by simpa using nI hb
  subst hl
  refine kt 5 34 4 J J ?_
  refine l8 5 J J J J ?_
  refine yp 2 J ?_
  exact lE th Tryz.func144 [5] (.slice none 0 0) (.inr ⟨_,rfl⟩) J J J J J J trivial
 ·refine l7 5 J J fun v=>?_
  exact lE th Tryz.func144 [5] v (.inr ⟨_,rfl⟩) J J J J J J trivial
end Go.Sy
namespace Go.Sy
open Go.Proofs
set_option maxRecDepth 100000
attribute [local irreducible] SOps Goes DOps EOps
def bM.val(m:bM):Value:=.agg #[.string m.label,.int .i64 m.kind,.string m.name,.int .i64 m.next]
theorem Rh(x y:bM)(w:World):(Op.equalIn 10000 34 x.val y.val).run Tryz.prog w=.ok (decide (x=y)) w:=by
 have u3:=Tryz.underlying3
 have a3:=Tryz.isAgg3
 have z3:=Tryz.sizeOf3
 have u9:=Tryz.underlying9
 have a9:=Tryz.isAgg9
 have z9:=Tryz.sizeOf9
 have hS:Tryz.prog.underlying 34=some (.struct (Tryz.prog.fieldsOf 34)):=by kernel_rfl
 have hp:Tryz.prog.stoodInHeld 34=false:=by kernel_rfl
 obtain⟨a,b,c,e⟩:=x
 obtain⟨a',b',c',e'⟩:=y
 simp only[bM.val]
 rw[show(10000:Nat)=9999+1 from rfl,run_equalIn_agg w 9999 34 _ _ hS hp]
 simp only[Program.fieldsOf,Tryz.underlying34]
 go_simp
 have key:∀c c':ByteArray,(c.toList=c'.toList)↔c=c':=by
  intro c c'
  rw[ByteArray.toList_eq,ByteArray.toList_eq]
  obtain⟨⟨x⟩⟩:=c
  obtain⟨⟨y⟩⟩:=c'
  simp
 by_cases h1:a=a'<;>by_cases h2:b=b'<;>by_cases h3:c=c'<;>by_cases h4:e=e'<;>simp[h1,h2,h3,h4,key]
section
variable {C:Ctx} {n:Nat} {tm:TM} {mm:MM} {o:Oper} {d:Nat}
theorem Ed{I:Nat→Prop}{H:Nat→Value}{Z:Nat→Nat}{w:World}{M:Nat→Prop}{v:Value}{m:bM}(h:cF I H Z w M v (Ag m.cs)):v=m.val:=by
 obtain⟨vs,rfl,hs,hr⟩:=h
 obtain⟨u0,g0,r0⟩:=hr 0 _ J
 obtain⟨u1,g1,r1⟩:=hr 1 _ J
 obtain⟨u2,g2,r2⟩:=hr 2 _ J
 obtain⟨u3,g3,r3⟩:=hr 3 _ J
 have r0:=a7.fo r0
 have r1:=a7.cH r1
 have r2:=a7.fo r2
 have r3:=a7.cH r3
 subst r0 r1 r2 r3
 have hs:vs.size=4:=hs
 congr 1
 apply Array.ext
 ·simpa using hs
 ·intro i hi Mq
  have:i=0∨i=1∨i=2∨i=3:=by omega
  rcases this with rfl|rfl|rfl|rfl
  ·rw[bW hi]at g0;injection g0 with g0
  ·rw[bW hi]at g1;injection g1 with g1
  ·rw[bW hi]at g2;injection g2 with g2
  ·rw[bW hi]at g3;injection g3 with g3
theorem EK{p:BinOp}{t':Nat}{x y:Operand}{a b:bM}(hP:C.P=Tryz.prog)(ho:o.op=.binOp p 34 x y t')(hp:p=.eql∨p=.neq)(hx:dM tm x=some (Ag a.cs))(hy:dM tm y=some (Ag b.cs))(hd:o.dst=some d)(hn:Nat.blt d n=true):
 eO C n o tm mm d (.v (.one (.c (.bool (match p with|.eql=>decide (a=b)|_=>!decide (a=b)))))):=
 eO.val hd hn _ fun H Z A w hm=>by
  have h1:A.eval x=a.val:=Ed (ee hm hx)
  have h2:A.eval y=b.val:=Ed (ee hm hy)
  have hq:Tryz.prog.eqGuardType Tryz.prog.depth 34=false:=by kernel_rfl
  have heq:=Rh a b w
  simp only[bM.val]at h1 h2 heq
  refine⟨.bool (match p with|.eql=>decide (a=b)|_=>!decide (a=b)),?_,.bool _⟩
  rw[hP]
  rcases hp with rfl|rfl
  ·simp only[execOp,ho,h1,h2,Sem.run_bind,run_eqGuard_agg w _ _ _ _ _ _ hq,Result.andThen_ok,run_eql_struct,heq,Sem.run_pure]
  ·simp only[execOp,ho,h1,h2,Sem.run_bind,run_eqGuard_agg w _ _ _ _ _ _ hq,Result.andThen_ok,run_neq_struct,heq,Sem.run_pure]
end
section
variable {C:Ctx} {n:Nat} {tm cp:TM} {mm:MM} {L l:List Oper} {T:TM→Prop} {o:Oper} {d:Nat} {x y:Operand}
theorem Lu{t':Nat}{a b:bM}(hP:C.P=Tryz.prog)(ho:o.op=.binOp .neq 34 x y t')(hx:dM (bg (aK L o) tm) x=some (Ag a.cs))(hy:dM (bg (aK L o) tm) y=some (Ag b.cs))(hd:o.dst=some d)(hn:Nat.blt d n=true)(hg:bp L (bg (aK L o) tm) o=some true)
 (k:DOps C n mm L cp l ((d,.v (.one (.c (.bool (!decide (a=b))))))::bw tm d) T):DOps C n mm L cp (o::l) tm T:=
 mH (EK (p:=.neq) hP ho (.inr rfl) hx hy hd hn) hg k
end
theorem CK{α:Type}{l m:List α}{k:Nat}(hl:k < l.length)(hm:k < m.length)(h:l[k]≠m[k]):l≠m:=by
 intro e;subst e;exact h J
theorem yt{α:Type}{l m:List α}(hlen:l.length=m.length)(h:∀i (h1:i < l.length) (h2:i < m.length),l[i]=m[i]):l=m:=mV hlen h
set_option maxHeartbeats 4000000 in
theorem IJ(l m:List ByteArray):dy Tryz.prog 103 [] [C1 (bh l),C1 (bh m)] (Rv (.bool (decide (l=m)))) []:=by
 refine bd (c:=_) Tryz.func103 rfl rfl rfl (by decide) fun w M0 H Z=>?_
 refine gl 0 J fun mT=>?_
 simp only[aw]at mT
 by_cases hlen:l.length=m.length
 ·have Ih:((pn l).length:Int)=((pn m).length:Int):=by simp[hlen]
  repeat'(first|refine bH J ?_|(refine al ?_;refine aj th J ?_)|(refine au mix J J ?_;refine ak th J ?_)|(refine ao mix J J ?_;refine ay th J ?_)|refine SOps.nil ?_|refine DOps.nil ?_|refine EOps.nil ?_ rfl rfl|((first|refine aq J J ?_ ?_|refine av J J J ?_ ?_|refine aU J ?_ ?_)<;>intro hb<;>(try simp only[aF]at hb)<;>first|(exfalso;omega)|refine aj th J ?_|refine ak th J ?_|skip))
  refine bE (fun k:Nat=>k≤l.length∧∀i (h:i < k) (h1:i < l.length) (h2:i < m.length),l[i]=m[i])
   (fun k=>[(0,.v (C1 (bh l))),(0+1,.v (C1 (bh m))),(12,.v (C1 (.int .i64 (l.length:Int)))),(13,.v (C1 (.int .i64 (k:Int))))])
   (fun _=>[]) (fun k=>l.length - k) 0 ⟨aM _,fun i h=>by omega⟩
   (fun a w h=>h.sub (by exact⟨⟨_,rfl,.refl _⟩,⟨_,rfl,.refl _⟩,⟨_,rfl,aC (by simp)⟩,⟨_,rfl,aC J⟩,trivial⟩) (by exact trivial) J J J) (fun k hk ih=>?_)
  obtain⟨hk,ha⟩:=hk
  by_cases bo:k < l.length
  ·have mF:k < m.length:=by omega
   have hx:(pn l)[k]? =some [.str l[k]]:=by simp[bo]
   have hy:(pn m)[k]? =some [.str m[k]]:=by simp[mF]
   repeat'(first|refine bH J ?_|(refine al ?_;refine aj th J ?_)|(refine au mix J J ?_;refine ak th J ?_)|(refine ao mix J J ?_;refine ay th J ?_)|refine SOps.nil ?_|refine DOps.nil ?_|refine EOps.nil ?_ rfl rfl|((first|refine aq J J ?_ ?_|refine av J J J ?_ ?_|refine aU J ?_ ?_)<;>intro hb<;>(try simp only[aF]at hb)<;>first|(exfalso;omega)|refine aj th J ?_|refine ak th J ?_|skip)|refine aT th Tryz.func103 (.inr ⟨_,rfl⟩) J J J ?_ rfl|((first|refine fT th J J J J J J J J J k _ J hx ?_|refine fT th J J J J J J J J J k _ J hy ?_|refine Lu (a:=l[k]) (b:=m[k]) J J J J J J J ?_);refine ak th J ?_)|(refine bO J J J J J J (by omega) ?_;refine aj th J ?_))
   all_goals first
    |(have cj:l≠m:=CK bo mF (by simpa using hb)
      rw[show decide (l=m)=false by simpa using cj];exact .refl _)
    |exact bJ (by exact⟨⟨_,rfl,.refl _⟩,⟨_,rfl,.refl _⟩,⟨_,rfl,.refl _⟩,⟨_,rfl,aC (by omega)⟩,trivial⟩) (by exact trivial) J J J (ih (k+1) ⟨bo,fun i h h1 h2=>by
      by_cases kJ:i=k
      ·subst kJ;simpa using hb
      ·exact ha i (by omega) h1 h2⟩ (by omega))
  ·have he:l=m:=yt hlen fun i h1 h2=>ha i (by omega) h1 h2
   repeat'(first|refine bH J ?_|(refine al ?_;refine aj th J ?_)|(refine au mix J J ?_;refine ak th J ?_)|(refine ao mix J J ?_;refine ay th J ?_)|refine SOps.nil ?_|refine DOps.nil ?_|refine EOps.nil ?_ rfl rfl|((first|refine aq J J ?_ ?_|refine av J J J ?_ ?_|refine aU J ?_ ?_)<;>intro hb<;>(try simp only[aF]at hb)<;>first|(exfalso;omega)|refine aj th J ?_|refine ak th J ?_|skip)|refine aT th Tryz.func103 (.inr ⟨_,rfl⟩) J J J ?_ rfl)
   rw[show decide (l=m)=true by simpa using he];exact .refl _
 ·have cj:l≠m:=fun e=>hlen (by rw[e])
  rw[show decide (l=m)=false by simpa using cj]
  repeat'(first|refine bH J ?_|(refine al ?_;refine aj th J ?_)|(refine au mix J J ?_;refine ak th J ?_)|(refine ao mix J J ?_;refine ay th J ?_)|refine SOps.nil ?_|refine DOps.nil ?_|refine EOps.nil ?_ rfl rfl|((first|refine aq J J ?_ ?_|refine av J J J ?_ ?_|refine aU J ?_ ?_)<;>intro hb<;>(try simp only[aF]at hb)<;>first|(exfalso;omega)|refine aj th J ?_|refine ak th J ?_|skip)|refine aT th Tryz.func103 (.inr ⟨_,rfl⟩) J J J ?_ rfl)
  all_goals exact .refl _
end Go.Sy
namespace Go.Sy
open Go.Proofs
set_option maxRecDepth 100000
attribute [local irreducible] SOps Goes DOps EOps
end Go.Sy
namespace Go.Sy
theorem oh{l:List ByteArray}{s:ByteArray}(h:s∈l):∃k,∃hk:k < l.length,dw l s=(k:Int)∧l[k]=s:=by
 cases hf:l.findIdx? fun x=>decide (x=s)with
 |none=>
  rw[bL]at hf
  have:=hf s h
  simp at this
 |some k=>
  have iG:=hf
  rw[bB]at iG
  obtain⟨hk,hp,_⟩:=iG
  exact⟨k,hk,by unfold dw fb;rw[hf],by simpa using hp⟩
theorem gY{l:List ByteArray}{s:ByteArray}:hasB l s=true↔s∈l:=by
 unfold hasB
 rw[decide_eq_true_eq]
 constructor
 ·intro h
  rcases Classical.em (s∈l)with hm|hm
  ·exact hm
  ·have:dw l s=-1:=dv fun i hi=>by
    simpa using fun e:l[i]=s=>hm (e▸az hi)
   omega
 ·intro h;obtain⟨k,_,e,_⟩:=oh h;omega
theorem Hm{l:List ByteArray}(h:l.Nodup):lR l=true:=by
 refine aV.2 fun i hi=>?_
 have bo:=cc.1 hi
 obtain⟨k,hk,e,he⟩:=oh (az bo)
 unfold ry
 rw[aa bo,jT,e]
 have cj:=bm.1 (bA.1 h)
 have:k=i:=by
  rcases cv k i with h3|h3|h3
  ·exact absurd he (cj k i hk bo h3)
  ·exact h3
  ·exact absurd he.symm (cj i k bo hk h3)
 simp[this]
theorem EC(l:Loc):o9 (fL l):=by
 unfold fL;split
 ·exact BT _ _
 ·exact List.Pairwise.nil
end Go.Sy
namespace Go.Sy
open Go.Proofs
set_option maxRecDepth 100000
attribute [local irreducible] SOps Goes DOps EOps
def po:List ByteArray:=[⟨#[97]⟩,⟨#[98]⟩,⟨#[99]⟩,⟨#[100]⟩,⟨#[101]⟩]
def kj:List ByteArray:=[⟨#[119]⟩,⟨#[120]⟩,⟨#[121]⟩,⟨#[122]⟩]
theorem JY:dy Tryz.prog 76 [] [] (Rv (.slice true 1 (po.map fun s=>[CT.str s]))) []:=by
 refine bd (c:=_) Tryz.func76 rfl rfl rfl (by decide) fun w M0 H Z=>?_
 repeat'(first|refine bH J ?_|(refine al ?_;refine aj th J ?_)|(refine au mix J J ?_;refine ak th J ?_)|(refine ao mix J J ?_;refine ay th J ?_)|refine SOps.nil ?_|refine DOps.nil ?_|refine EOps.nil ?_ rfl rfl|((first|refine aq J J ?_ ?_|refine av J J J ?_ ?_|refine aU J ?_ ?_)<;>intro hb<;>(try simp only[aF]at hb)<;>first|(exfalso;omega)|refine aj th J ?_|refine ak th J ?_|skip)|refine aT th Tryz.func76 (.inr ⟨_,rfl⟩) J J J ?_ rfl|(refine dZ 1 J J ?_))
 all_goals exact .refl _
theorem HJ:dy Tryz.prog 107 [] [] (Rv (.slice true 1 (kj.map fun s=>[CT.str s]))) []:=by
 refine bd (c:=_) Tryz.func107 rfl rfl rfl (by decide) fun w M0 H Z=>?_
 repeat'(first|refine bH J ?_|(refine al ?_;refine aj th J ?_)|(refine au mix J J ?_;refine ak th J ?_)|(refine ao mix J J ?_;refine ay th J ?_)|refine SOps.nil ?_|refine DOps.nil ?_|refine EOps.nil ?_ rfl rfl|((first|refine aq J J ?_ ?_|refine av J J J ?_ ?_|refine aU J ?_ ?_)<;>intro hb<;>(try simp only[aF]at hb)<;>first|(exfalso;omega)|refine aj th J ?_|refine ak th J ?_|skip)|refine aT th Tryz.func107 (.inr ⟨_,rfl⟩) J J J ?_ rfl|(refine dZ 1 J J ?_))
 all_goals exact .refl _
end Go.Sy
namespace Go.Sy
open Go.Proofs
set_option maxRecDepth 100000
attribute [local irreducible] SOps Goes DOps EOps
theorem F8(x:Int):0≤IntKind.u64.wrap x:=by
 simp only[IntKind.wrap,IntKind.signed,IntKind.bits,Bool.false_and,dS,if_false]
 omega
theorem tf{x:Int}(h0:0≤x)(h1:x≤9223372036854775807):IntKind.u64.wrap x=x:=by
 simp only[IntKind.wrap,IntKind.signed,IntKind.bits,Bool.false_and,dS,if_false]
 omega
theorem F9{x:Int}(h0:0≤x)(h1:x≤9223372036854775807):IntKind.i64.wrap x=x:=by
 have h2:x % (2 ^ 64:Int)=x:=by omega
 simp only[IntKind.wrap,IntKind.signed,IntKind.bits,bT,h2]
 rw[if_neg (by simp;omega)]
theorem PU{x n:Int}(h0:1≤n)(h1:n≤9223372036854775807):0≤(IntKind.u64.wrap x).tmod n∧(IntKind.u64.wrap x).tmod n < n:=by
 have h2:=F8 x
 exact⟨vV _ h2,pT _ (by omega)⟩
theorem Na{x n:Int}(h0:1≤n)(h1:n≤9223372036854775807):
 0≤IntKind.i64.wrap ((IntKind.u64.wrap x).tmod (IntKind.u64.wrap n))∧IntKind.i64.wrap ((IntKind.u64.wrap x).tmod (IntKind.u64.wrap n)) < n:=by
 have h2:=PU (x:=x) h0 h1
 rw[tf (by omega) h1,F9 h2.1 (by omega)]
 exact h2
end Go.Sy
namespace Go.Sy
open Go.Proofs
set_option maxRecDepth 100000
attribute [local irreducible] SOps Goes DOps EOps
theorem P2(l:List Int)(hb:l.length * 8≤140737488355328):L1 Tryz.prog 11 [C1 (cA l)] [cA l,.int .i64 0]:=by
 refine Lx (c:=_) Tryz.func11 rfl rfl rfl (by decide) fun w M0 H=>?_
 repeat'(first|refine bH J ?_|(refine al ?_;refine aj th J ?_)|(refine au mix J J ?_;refine ak th J ?_)|(refine ao mix J J ?_;refine ay th J ?_)|refine SOps.nil ?_|refine DOps.nil ?_|refine EOps.nil ?_ rfl rfl|((first|refine aq J J ?_ ?_|refine av J J J ?_ ?_|refine aU J ?_ ?_)<;>intro hb<;>(try simp only[aF]at hb)<;>first|(exfalso;omega)|refine aj th J ?_|refine ak th J ?_|skip)|(refine dV J J J J ?_;refine aj th J ?_)|(refine Ev th 4 J J J J J J J J J J J J J J (by constructor<;>simp<;>omega) ?_;refine aj th J ?_)|(refine dZ 4 J J ?_)|exact OK th Tryz.func11 (.inr ⟨_,rfl⟩) J J J J J)
end Go.Sy
