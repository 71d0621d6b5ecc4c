/- Contracts of the reference, bundle Bn1. -/
import Derived.Test.YtdjocfajcbhmgaaGreatDoorAu
import Derived.Test.YtdjocfajcbhmgaaGreatDoorBl1
import Derived.Test.YtdjocfajcbhmgaaGreatDoorSy6
import Derived.Test.YtdjocfajcbhmgaaGreatDoorSy8
import Derived.Laws.StructEq
import Derived.Test.YtdjocfajcbhmgaaGreatDoorSy4
import Derived.Test.YtdjocfajcbhmgaaGreatDoorSy5
set_option maxHeartbeats 64000000
set_option linter.unusedSimpArgs false
set_option linter.unusedVariables false
set_option linter.unusedSectionVars false
namespace Go.Sy
open Go.Proofs
set_option maxRecDepth 100000
attribute [local irreducible] SOps Goes DOps EOps
def jA{α:Type}(p:α→Bool)(l:List α):Int:=
 match l.findIdx? p with
 |some i=>(i:Int)
 |none=>-1
theorem ku{α:Type}{p:α→Bool}{l:List α}{k:Nat}(hk:k < l.length)(ha:∀i (h:i < k),p (l[i]'(by omega))=false)(hp:p l[k]=true):jA p l=(k:Int):=by
 have:l.findIdx? p=some k:=by
  rw[bh]
  exact⟨hk,hp,fun j hj=>by simp[ha j hj]⟩
 simp[jA,this]
theorem ey{α:Type}{p:α→Bool}{l:List α}(ha:∀i (h:i < l.length),p l[i]=false):jA p l=-1:=by
 have:l.findIdx? p=none:=by
  rw[bx]
  intro x hx
  obtain⟨i,hi,rfl⟩:=aC.1 hx
  simp[ha i hi]
 simp[jA,this]
def fC(l:List ByteArray)(s:ByteArray):Int:=jA (fun x=>decide (x=s)) l
theorem AA(l:List ByteArray)(s:ByteArray):er Tryz.prog 90 [] [C1 (bL l),C1 (.str s)] (Rv (.int .i64 (fC l s))) []:=by
 refine bn (c:=_) Tryz.func90 rfl rfl rfl (by decide) fun w M0 H Z=>?_
 refine il 0 J fun nw=>?_
 simp only[ak]at nw
 repeat'(first|refine aA ?_|(refine aB ?_ ?_<;>first|exact aD|(refine aE ?_;intro hb))|fail)
 refine bE (fun k:Nat=>k≤l.length∧∀i (h:i < k) (h':i < l.length),decide (l[i]=s)=false)
  (fun k=>[(0,.v (C1 (bL l))),(0+1,.v (C1 (.str s))),(7,.v (C1 (.int .i64 (l.length:Int)))),(8,.v (C1 (.int .i64 (k:Int))))])
  (fun _=>[]) (fun k=>l.length - k) 0 ⟨aF _,fun i h=>by omega⟩
  aH (fun k hk ih=>?_)
 obtain⟨hk,ha⟩:=hk
 by_cases bj:k < l.length
 ·have hx:(l.map fun s=>[CT.str s])[k]? =some [.str l[k]]:=by simp[bj]
  repeat'(first|refine aA ?_|(refine aB ?_ ?_<;>first|exact aD|(refine aE ?_;intro hb))|refine aZ th Tryz.func90 (.inr ⟨_,rfl⟩) J J J ?_ rfl|((first|refine bO th J J J J J J J J J k _ J hx ?_|refine bH J J J J J J (by omega) ?_);refine ao th J ?_))
  ·rw[show fC l s=(k:Int)from ku bj (fun i h=>ha i h (by omega)) (by simpa using hb)]
   exact .refl _
  ·exact aS (ih (k+1) ⟨bj,fun i h h'=>by
    by_cases oW:i=k
    ·subst oW;simpa using hb
    ·exact ha i (by omega) h'⟩ (by omega))
 ·have gv:k=l.length:=by omega
  subst gv
  repeat'(first|refine aA ?_|(refine aB ?_ ?_<;>first|exact aD|(refine aE ?_;intro hb))|refine aZ th Tryz.func90 (.inr ⟨_,rfl⟩) J J J ?_ rfl)
  rw[show fC l s=-1 from ey (fun i h=>ha i h h)]
  exact .refl _
def hasB(l:List ByteArray)(s:ByteArray):Bool:=decide (0≤fC l s)
theorem Dn(l:List ByteArray)(s:ByteArray):er Tryz.prog 54 [] [C1 (bL l),C1 (.str s)] (Rv (.bool (hasB l s))) []:=by
 refine bn (c:=_) Tryz.func54 rfl rfl rfl (by decide) fun w M0 H Z=>?_
 repeat'(first|refine aA ?_|(refine aB ?_ ?_<;>first|exact aD|(refine aE ?_;intro hb))|refine aZ th Tryz.func54 (.inr ⟨_,rfl⟩) J J J ?_ rfl|(refine aR (AA l s) [] J J J J J J J J J J ?_;refine ao th J ?_))
 all_goals exact .refl _
def wx(l:List ByteArray)(i:Nat):Bool:=decide (fC l ((l[i]?).getD ⟨#[]⟩)=(i:Int))
def rU(l:List ByteArray):Bool:=(List.range l.length).all (wx l)
theorem Ri(l:List ByteArray):er Tryz.prog 74 [] [C1 (bL l)] (Rv (.bool (rU l))) []:=by
 refine bn (c:=_) Tryz.func74 rfl rfl rfl (by decide) fun w M0 H Z=>?_
 refine il 0 J fun nw=>?_
 simp only[ak]at nw
 repeat'(first|refine aA ?_|(refine aB ?_ ?_<;>first|exact aD|(refine aE ?_;intro hb))|fail)
 refine bE (fun k:Nat=>k≤l.length∧∀i,i < k→wx l i=true)
  (fun k=>[(0,.v (C1 (bL l))),(5,.v (C1 (.int .i64 (l.length:Int)))),(6,.v (C1 (.int .i64 (k:Int))))])
  (fun _=>[]) (fun k=>l.length - k) 0 ⟨aF _,fun i h=>by omega⟩
  aH (fun k hk ih=>?_)
 obtain⟨hk,ha⟩:=hk
 by_cases bj:k < l.length
 ·have hx:(l.map fun s=>[CT.str s])[k]? =some [.str l[k]]:=by simp[bj]
  have US:wx l k=decide (fC l l[k]=(k:Int)):=by simp[wx,bj]
  repeat'(first|refine aA ?_|(refine aB ?_ ?_<;>first|exact aD|(refine aE ?_;intro hb))|refine aZ th Tryz.func74 (.inr ⟨_,rfl⟩) J J J ?_ rfl|((first|refine bO th J J J J J J J J J k _ J hx ?_|refine aR (AA l l[k]) [] J J J J J J J J J J ?_|refine bH J J J J J J (by omega) ?_);refine ao th J ?_))
  all_goals first
   |(have hf:rU l=false:=dC.2 ⟨k,ek.2 bj,by rw[US];simpa using hb⟩
     rw[hf];exact .refl _)
   |(rename_i hq
     exact aS (ih (k+1) ⟨bj,fun i h=>by
      by_cases oW:i=k
      ·subst oW;rw[US];simpa using hb
      ·exact ha i (by omega)⟩ (by omega)))
 ·have gv:k=l.length:=by omega
  subst gv
  repeat'(first|refine aA ?_|(refine aB ?_ ?_<;>first|exact aD|(refine aE ?_;intro hb))|refine aZ th Tryz.func74 (.inr ⟨_,rfl⟩) J J J ?_ rfl)
  rw[show rU l=true from a7.2 fun i hi=>ha i (ek.1 hi)]
  exact .refl _
end Go.Sy
namespace Go.Sy
open Go.Proofs
set_option maxRecDepth 100000
attribute [local irreducible] SOps Goes DOps EOps FOps
abbrev qL(l:List ByteArray):List (List CT):=l.map fun r=>[CT.str r]
abbrev Wb(l:List bD):List (List CT):=l.map bD.cs
theorem DF(l:List ByteArray)(gW:l.length * 16≤140737488355328):I7 Tryz.prog 115 [C1 (bL l)] (fun _:Value=>True) (fun v=>.v (C1 (.val v))) (fun v=>[(9,1,[(v,qL l)])]):=by
 refine Bo (c:=_) Tryz.func115 rfl rfl rfl (by decide) fun w M0 H=>?_
 repeat'(first|refine aA ?_|(refine aB ?_ ?_<;>first|exact aD|(refine aE ?_;intro hb))|((first|refine gP J J J J ?_|refine Gg th J J J J J J J (fun b w5=>?_));refine ao th J ?_)|(refine k8 th J J J J J J J J J J J J J J (by constructor<;>simp<;>omega) ?_;refine ao th J ?_))
 ·have hl:l=[]:=by simpa using w5 hb
  subst hl
  refine lh 5 9 1 J J ?_
  refine j8 5 J J J J ?_
  refine LV 2 J ?_
  exact xj th Tryz.func115 [5] (.slice none 0 0) (.inr ⟨_,rfl⟩) J J J J J J trivial
 ·refine mX 5 J J fun v=>?_
  exact xj th Tryz.func115 [5] v (.inr ⟨_,rfl⟩) J J J J J J trivial
theorem uA(l:List bD)(gW:l.length * 48≤140737488355328):I7 Tryz.prog 144 [C1 (fM l)] (fun _:Value=>True) (fun v=>.v (C1 (.val v))) (fun v=>[(34,4,[(v,Wb l)])]):=by
 refine Bo (c:=_) Tryz.func144 rfl rfl rfl (by decide) fun w M0 H=>?_
 repeat'(first|refine aA ?_|(refine aB ?_ ?_<;>first|exact aD|(refine aE ?_;intro hb))|((first|refine gP J J J J ?_|refine Gg th J J J J J J J (fun b w5=>?_));refine ao th J ?_)|(refine k8 th J J J J J J J J J J J J J J (by constructor<;>simp<;>omega) ?_;refine ao th J ?_))
 ·have hl:l=[]:=by simpa using w5 hb
  subst hl
  refine lh 5 34 4 J J ?_
  refine j8 5 J J J J ?_
  refine LV 2 J ?_
  exact xj th Tryz.func144 [5] (.slice none 0 0) (.inr ⟨_,rfl⟩) J J J J J J trivial
 ·refine mX 5 J J fun v=>?_
  exact xj th Tryz.func144 [5] v (.inr ⟨_,rfl⟩) J J J J J J trivial
end Go.Sy
namespace Go.Sy
open Go.Proofs
set_option maxRecDepth 100000
attribute [local irreducible] SOps Goes DOps EOps
def bD.val(m:bD):Value:=.agg #[.string m.label,.int .i64 m.kind,.string m.name,.int .i64 m.next]
theorem U7(x y:bD)(w:World):(Op.equalIn 10000 34 x.val y.val).run Tryz.prog w=.ok (decide (x=y)) w:=by
 have u3:=Tryz.underlying3
 have a3:=Tryz.isAgg3
 have z3:=Tryz.sizeOf3
 have u9:=Tryz.underlying9
 have a9:=Tryz.isAgg9
 have z9:=Tryz.sizeOf9
 have hS:Tryz.prog.underlying 34=some (.struct (Tryz.prog.fieldsOf 34)):=by kernel_rfl
 have hp:Tryz.prog.stoodInHeld 34=false:=by kernel_rfl
 obtain⟨a,b,c,e⟩:=x
 obtain⟨a',b',c',e'⟩:=y
 simp only[bD.val]
 rw[show(10000:Nat)=9999+1 from rfl,run_equalIn_agg w 9999 34 _ _ hS hp]
 simp only[Program.fieldsOf,Tryz.underlying34]
 go_simp
 have key:∀c c':ByteArray,(c.toList=c'.toList)↔c=c':=by
  intro c c'
  rw[ByteArray.toList_eq,ByteArray.toList_eq]
  obtain⟨⟨x⟩⟩:=c
  obtain⟨⟨y⟩⟩:=c'
  simp
 by_cases h1:a=a'<;>by_cases h2:b=b'<;>by_cases h3:c=c'<;>by_cases h4:e=e'<;>simp[h1,h2,h3,h4,key]
section
variable {C:Ctx} {n:Nat} {tm:TM} {mm:MM} {o:Oper} {d:Nat}
theorem Hj{I:Nat→Prop}{H:Nat→Value}{Z:Nat→Nat}{w:World}{M:Nat→Prop}{v:Value}{m:bD}(h:cu I H Z w M v (Ag m.cs)):v=m.val:=by
 obtain⟨vs,rfl,hs,hr⟩:=h
 obtain⟨u0,g0,r0⟩:=hr 0 _ J
 obtain⟨u1,g1,r1⟩:=hr 1 _ J
 obtain⟨u2,g2,r2⟩:=hr 2 _ J
 obtain⟨u3,g3,r3⟩:=hr 3 _ J
 have r0:=aV.fR r0
 have r1:=aV.cA r1
 have r2:=aV.fR r2
 have r3:=aV.cA r3
 subst r0 r1 r2 r3
 have hs:vs.size=4:=hs
 congr 1
 apply Array.ext
 ·simpa using hs
 ·intro i hi Qs
  have:i=0∨i=1∨i=2∨i=3:=by omega
  rcases this with rfl|rfl|rfl|rfl
  ·rw[cy hi]at g0;injection g0 with g0
  ·rw[cy hi]at g1;injection g1 with g1
  ·rw[cy hi]at g2;injection g2 with g2
  ·rw[cy hi]at g3;injection g3 with g3
theorem HW{p:BinOp}{t':Nat}{x y:Operand}{a b:bD}(hP:C.P=Tryz.prog)(ho:o.op=.binOp p 34 x y t')(hp:p=.eql∨p=.neq)(hx:cx tm x=some (Ag a.cs))(hy:cx tm y=some (Ag b.cs))(hd:o.dst=some d)(hn:Nat.blt d n=true):
 ea C n o tm mm d (.v (.one (.c (.bool (match p with|.eql=>decide (a=b)|_=>!decide (a=b)))))):=
 ea.val hd hn _ fun H Z A w hm=>by
  have h1:A.eval x=a.val:=Hj (c8 hm hx)
  have h2:A.eval y=b.val:=Hj (c8 hm hy)
  have hq:Tryz.prog.eqGuardType Tryz.prog.depth 34=false:=by kernel_rfl
  have heq:=U7 a b w
  simp only[bD.val]at h1 h2 heq
  refine⟨.bool (match p with|.eql=>decide (a=b)|_=>!decide (a=b)),?_,.bool _⟩
  rw[hP]
  rcases hp with rfl|rfl
  ·simp only[execOp,ho,h1,h2,Sem.run_bind,run_eqGuard_agg w _ _ _ _ _ _ hq,Result.andThen_ok,run_eql_struct,heq,Sem.run_pure]
  ·simp only[execOp,ho,h1,h2,Sem.run_bind,run_eqGuard_agg w _ _ _ _ _ _ hq,Result.andThen_ok,run_neq_struct,heq,Sem.run_pure]
end
section
variable {C:Ctx} {n:Nat} {tm cq:TM} {mm:MM} {L l:List Oper} {T:TM→Prop} {o:Oper} {d:Nat} {x y:Operand}
theorem Pr{t':Nat}{a b:bD}(hP:C.P=Tryz.prog)(ho:o.op=.binOp .neq 34 x y t')(hx:cx (aX (aI L o) tm) x=some (Ag a.cs))(hy:cx (aX (aI L o) tm) y=some (Ag b.cs))(hd:o.dst=some d)(hn:Nat.blt d n=true)(hg:aY L (aX (aI L o) tm) o=some true)
 (k:DOps C n mm L cq l ((d,.v (.one (.c (.bool (!decide (a=b))))))::bo tm d) T):DOps C n mm L cq (o::l) tm T:=
 mv (HW (p:=.neq) hP ho (.inr rfl) hx hy hd hn) hg k
end
theorem SD{α:Type}{l m:List α}{k:Nat}(hl:k < l.length)(hm:k < m.length)(h:l[k]≠m[k]):l≠m:=by
 intro e;subst e;exact h J
theorem Pb{α:Type}{l m:List α}(hlen:l.length=m.length)(h:∀i (h1:i < l.length) (h2:i < m.length),l[i]=m[i]):l=m:=List.ext_getElem hlen h
theorem L5(l m:List ByteArray):er Tryz.prog 103 [] [C1 (bL l),C1 (bL m)] (Rv (.bool (decide (l=m)))) []:=by
 refine bn (c:=_) Tryz.func103 rfl rfl rfl (by decide) fun w M0 H Z=>?_
 refine il 0 J fun nw=>?_
 simp only[ak]at nw
 by_cases hlen:l.length=m.length
 ·have hlenI:((qL l).length:Int)=((qL m).length:Int):=by simp[hlen]
  repeat'(first|refine aA ?_|(refine aB ?_ ?_<;>first|exact aD|(refine aE ?_;intro hb))|fail)
  refine bE (fun k:Nat=>k≤l.length∧∀i (h:i < k) (h1:i < l.length) (h2:i < m.length),l[i]=m[i])
   (fun k=>[(0,.v (C1 (bL l))),(0+1,.v (C1 (bL m))),(12,.v (C1 (.int .i64 (l.length:Int)))),(13,.v (C1 (.int .i64 (k:Int))))])
   (fun _=>[]) (fun k=>l.length - k) 0 ⟨aF _,fun i h=>by omega⟩
   aH (fun k hk ih=>?_)
  obtain⟨hk,ha⟩:=hk
  by_cases bj:k < l.length
  ·have oV:k < m.length:=by omega
   have hx:(qL l)[k]? =some [.str l[k]]:=by simp[bj]
   have hy:(qL m)[k]? =some [.str m[k]]:=by simp[oV]
   repeat'(first|refine aA ?_|(refine aB ?_ ?_<;>first|exact aD|(refine aE ?_;intro hb))|refine aZ th Tryz.func103 (.inr ⟨_,rfl⟩) J J J ?_ rfl|((first|refine qx th J J J J J J J J J k _ J hx ?_|refine qx th J J J J J J J J J k _ J hy ?_|refine Pr (a:=l[k]) (b:=m[k]) J J J J J J J ?_);refine dP th J ?_)|(refine bH J J J J J J (by omega) ?_;refine ao th J ?_))
   all_goals first
    |(have cV:l≠m:=SD bj oV (by simpa using hb)
      rw[show decide (l=m)=false by simpa using cV];exact .refl _)
    |exact aS (ih (k+1) ⟨bj,fun i h h1 h2=>by
      by_cases oW:i=k
      ·subst oW;simpa using hb
      ·exact ha i (by omega) h1 h2⟩ (by omega))
  ·have he:l=m:=Pb hlen fun i h1 h2=>ha i (by omega) h1 h2
   repeat'(first|refine aA ?_|(refine aB ?_ ?_<;>first|exact aD|(refine aE ?_;intro hb))|refine aZ th Tryz.func103 (.inr ⟨_,rfl⟩) J J J ?_ rfl)
   rw[show decide (l=m)=true by simpa using he];exact .refl _
 ·have cV:l≠m:=fun e=>hlen (by rw[e])
  rw[show decide (l=m)=false by simpa using cV]
  repeat'(first|refine aA ?_|(refine aB ?_ ?_<;>first|exact aD|(refine aE ?_;intro hb))|refine aZ th Tryz.func103 (.inr ⟨_,rfl⟩) J J J ?_ rfl)
  all_goals exact .refl _
end Go.Sy
namespace Go.Sy
theorem zg{l:List ByteArray}{s:ByteArray}(h:s∈l):∃k,∃hk:k < l.length,fC l s=(k:Int)∧l[k]=s:=by
 cases hf:l.findIdx? fun x=>decide (x=s)with
 |none=>
  rw[bx]at hf
  have:=hf s h
  simp at this
 |some k=>
  have fK:=hf
  rw[bh]at fK
  obtain⟨hk,hp,_⟩:=fK
  exact⟨k,hk,by unfold fC jA;rw[hf],by simpa using hp⟩
theorem fh{l:List ByteArray}{s:ByteArray}:hasB l s=true↔s∈l:=by
 unfold hasB
 rw[decide_eq_true_eq]
 constructor
 ·intro h
  rcases Classical.em (s∈l)with hm|hm
  ·exact hm
  ·have:fC l s=-1:=ey fun i hi=>by
    simpa using fun e:l[i]=s=>hm (e▸an hi)
   omega
 ·intro h;obtain⟨k,_,e,_⟩:=zg h;omega
end Go.Sy
namespace Go.Sy
open Go.Proofs
set_option maxRecDepth 100000
attribute [local irreducible] SOps Goes DOps EOps
def fb:List ByteArray:=[⟨#[97]⟩,⟨#[98]⟩,⟨#[99]⟩,⟨#[100]⟩,⟨#[101]⟩]
def kj:List ByteArray:=[⟨#[119]⟩,⟨#[120]⟩,⟨#[121]⟩,⟨#[122]⟩]
theorem Ny:er Tryz.prog 76 [] [] (Rv (.slice true 1 (fb.map fun s=>[CT.str s]))) []:=by
 refine bn (c:=_) Tryz.func76 rfl rfl rfl (by decide) fun w M0 H Z=>?_
 repeat'(first|refine aA ?_|(refine aB ?_ ?_<;>first|exact aD|(refine aE ?_;intro hb))|refine aZ th Tryz.func76 (.inr ⟨_,rfl⟩) J J J ?_ rfl|(refine dY 1 J J ?_))
 all_goals exact .refl _
theorem KX:er Tryz.prog 107 [] [] (Rv (.slice true 1 (kj.map fun s=>[CT.str s]))) []:=by
 refine bn (c:=_) Tryz.func107 rfl rfl rfl (by decide) fun w M0 H Z=>?_
 repeat'(first|refine aA ?_|(refine aB ?_ ?_<;>first|exact aD|(refine aE ?_;intro hb))|refine aZ th Tryz.func107 (.inr ⟨_,rfl⟩) J J J ?_ rfl|(refine dY 1 J J ?_))
 all_goals exact .refl _
theorem Jn(x:Int):0≤IntKind.u64.wrap x:=by
 simp only[IntKind.wrap,IntKind.signed,IntKind.bits,Bool.false_and,cP,if_false]
 omega
theorem ot{x:Int}(h0:0≤x)(h1:x≤9223372036854775807):IntKind.u64.wrap x=x:=by
 simp only[IntKind.wrap,IntKind.signed,IntKind.bits,Bool.false_and,cP,if_false]
 omega
theorem Jo{x:Int}(h0:0≤x)(h1:x≤9223372036854775807):IntKind.i64.wrap x=x:=by
 have h2:x % (2 ^ 64:Int)=x:=by omega
 simp only[IntKind.wrap,IntKind.signed,IntKind.bits,bZ,h2]
 rw[if_neg (by simp;omega)]
theorem NO{x n:Int}(h0:1≤n)(h1:n≤9223372036854775807):0≤(IntKind.u64.wrap x).tmod n∧(IntKind.u64.wrap x).tmod n < n:=by
 have h2:=Jn x
 exact⟨Int.tmod_nonneg _ h2,Int.tmod_lt_of_pos _ (by omega)⟩
theorem Rc{x n:Int}(h0:1≤n)(h1:n≤9223372036854775807):
 0≤IntKind.i64.wrap ((IntKind.u64.wrap x).tmod (IntKind.u64.wrap n))∧IntKind.i64.wrap ((IntKind.u64.wrap x).tmod (IntKind.u64.wrap n)) < n:=by
 have h2:=NO (x:=x) h0 h1
 rw[ot (by omega) h1,Jo h2.1 (by omega)]
 exact h2
theorem Qa(l:List Int)(hb:l.length * 8≤140737488355328):P2 Tryz.prog 11 [C1 (ch l)] [ch l,.int .i64 0]:=by
 refine Pu (c:=_) Tryz.func11 rfl rfl rfl (by decide) fun w M0 H=>?_
 repeat'(first|refine aA ?_|(refine aB ?_ ?_<;>first|exact aD|(refine aE ?_;intro hb))|(refine gP J J J J ?_;refine ao th J ?_)|(refine sS th 4 J J J J J J J J J J J J J J (by constructor<;>simp<;>omega) ?_;refine ao th J ?_)|(refine dY 4 J J ?_)|exact Sz th Tryz.func11 (.inr ⟨_,rfl⟩) J J J J J)
end Go.Sy
set_option linter.unusedSimpArgs false
set_option linter.unusedVariables false
set_option linter.unusedSectionVars false
namespace Go.Sy
open Go.Proofs
set_option maxRecDepth 100000
attribute [local irreducible] SOps Goes DOps
def oz(k at_ n:Int):Bool:=
 if k=5 then decide (at_≥0)&&decide (at_ < n)else decide (k≥0)&&decide (k < 5)&&decide (at_=0)
theorem JB(k at_ n:Int):er Tryz.prog 94 [] [Ag [.int .i64 k,.int .i64 at_],C1 (.int .i64 n)] (Rv (.bool (oz k at_ n))) []:=by
 refine bn (c:=_) Tryz.func94 rfl rfl rfl (by decide) fun w M0 H Z=>?_
 repeat'(first|refine aA ?_|(refine aB ?_ ?_<;>first|exact aD|(refine aE ?_;intro hb))|refine dw th Tryz.func94 (.inr ⟨_,rfl⟩) J J J ⟨?_,rfl⟩)
 all_goals simp[dd,oz, *]
def wy(n:Int)(l:List Edge)(i:Nat):Bool:=
 match l[i]? with
 |none=>true
 |some e=>cg e.label&&((match i with|0=>true|j+1=>(match l[j]? with|some p=>gQ p.label e.label|none=>true))&&(decide (0≤e.next)&&(decide (e.next < n)&&oz e.kind e.at_ n)))
def Ab(n:Int)(l:List Edge):Bool:=(List.range l.length).all (wy n l)
def ig(n:Int)(x:Nd):Bool:=
 if x.kind=0 then decide (x.peer=⟨#[]⟩)&&decide (x.ax.length=0)
 else(decide (x.kind=1)||decide (x.kind=2))&&(cg x.peer&&(decide (1≤x.ax.length)&&(decide (x.ax.length≤6)&&Ab n x.ax)))
theorem pH{n:Int}{l:List Edge}(h:0 < l.length):
 wy n l 0=(cg l[0].label&&(decide (0≤l[0].next)&&(decide (l[0].next < n)&&oz l[0].kind l[0].at_ n))):=by simp[wy,h]
theorem pI{n:Int}{l:List Edge}{j:Nat}(h:j+1 < l.length):
 wy n l (j+1)=(cg l[j+1].label&&(gQ l[j].label l[j+1].label&&(decide (0≤l[j+1].next)&&(decide (l[j+1].next < n)&&oz l[j+1].kind l[j+1].at_ n)))):=by
 simp[wy,h,show j < l.length by omega]
theorem uD{n:Int}{l:List Edge}{k:Nat}(hk:k < l.length)(h:wy n l k=false):Ab n l=false:=
 dC.2 ⟨k,ek.2 hk,by simp[h]⟩
theorem Rn(x:Nd)(n:Int):er Tryz.prog 51 [] [Ag x.cs,C1 (.int .i64 n)] (Rv (.bool (ig n x))) []:=by
 obtain⟨kind,peer,ax⟩:=x
 refine bn (c:=_) Tryz.func51 rfl rfl rfl (by decide) fun w M0 H Z=>?_
 repeat'(first|refine aA ?_|(refine aB ?_ ?_<;>first|exact aD|(refine aE ?_;intro hb))|refine dw th Tryz.func51 (.inr ⟨_,rfl⟩) J J J ⟨?_,rfl⟩|(refine aR (qq _) [] J J J J J J J J J J ?_;refine ao th J ?_))
 all_goals try simp only[ak]at *
 all_goals try(simp[dd,ig, *];done)
 all_goals try(simp[dd,ig, *];omega)
 all_goals
  have Lq:ig n ⟨kind,peer,ax⟩=Ab n ax:=by
   have h1:1≤ax.length:=by omega
   have h2:ax.length≤6:=by omega
   simp[ig, *]
  refine bE (fun k:Nat=>k≤ax.length∧(List.range k).all (wy n ax)=true)
   (fun k=>[(1,.v (C1 (.int .i64 n))),(2,.v (.one (.ptr 2 0))),(46,.v (C1 (nj ax))),(47,.v (C1 (.int .i64 (ax.length:Int)))),(48,.v (C1 (.int .i64 (k:Int))))])
   (fun _=>[(2,.box [.c (.int .i64 kind),.c (.str peer),.c (nj ax)])]) (fun k=>ax.length - k) 0 ⟨aF _,rfl⟩
   aH (fun k hk ih=>?_)
  obtain⟨hk,b6⟩:=hk
  by_cases bj:k < ax.length
  ·have hx:(ax.map Edge.cs)[k]? =some (ax[k]).cs:=by simp[bj]
   cases k with
   |zero=>
    repeat'(first|refine aA ?_|(refine aB ?_ ?_<;>first|exact aD|(refine aE ?_;intro hb))|refine dw th Tryz.func51 (.inr ⟨_,rfl⟩) J J J ⟨?_,rfl⟩|((first|refine bO th J J J J J J J J J 0 (ax[0]).cs rfl hx ?_|refine bH J J J J J J (by omega) ?_);refine ao th J ?_)|((first|refine mw (qq _) [] J J J J J J J J J J J ?_|refine mw (JB _ _ _) [] J J J J J J J J J J J ?_);refine dP th J ?_))
    all_goals first
     |(have fQ:wy n ax 0=false:=by
        clear ih
        rw[pH bj]
        first|(simp[*];done)|(simp[*];intros;omega)|(simp[*];intros;exfalso;omega)
       simp[dd,Lq,uD bj fQ];done)
     |(refine aS (ih (0+1) ⟨bj,?_⟩ (by omega))
       rw[qa,dR,b6]
       clear ih
       simp only[uK,ya,bZ,hC]
       rw[pH bj]
       first|(simp[*];done)|(simp[*];omega))
   |succ j=>
    have C5:(ax.map Edge.cs)[j]? =some (ax[j]).cs:=by simp[show j < ax.length by omega]
    repeat'(first|refine aA ?_|(refine aB ?_ ?_<;>first|exact aD|(refine aE ?_;intro hb))|refine dw th Tryz.func51 (.inr ⟨_,rfl⟩) J J J ⟨?_,rfl⟩|((first|refine bO th J J J J J J J J J (j+1) (ax[j+1]).cs rfl hx ?_|refine bH J J J J J J (by omega) ?_);refine ao th J ?_)|((first|refine mw (qq _) [] J J J J J J J J J J J ?_|refine mw (JB _ _ _) [] J J J J J J J J J J J ?_|refine FN J J J J J J (by omega) ?_|refine qx th J J J J J J J J J j (ax[j]).cs (by omega) C5 ?_);refine dP th J ?_))
    all_goals first
     |(have fQ:wy n ax (j+1)=false:=by
        clear ih
        rw[pI bj]
        first|(simp[*];done)|(simp[*];intros;omega)|(simp[*];intros;exfalso;omega)
       simp[dd,Lq,uD bj fQ];done)
     |(refine aS (ih ((j+1)+1) ⟨bj,?_⟩ (by omega))
       rw[qa,dR,b6]
       clear ih
       simp only[uK,ya,bZ,hC]
       rw[pI bj]
       first|(simp[*];done)|(simp[*];omega))
  ·have gv:k=ax.length:=by omega
   subst gv
   repeat'(first|refine aA ?_|(refine aB ?_ ?_<;>first|exact aD|(refine aE ?_;intro hb))|refine dw th Tryz.func51 (.inr ⟨_,rfl⟩) J J J ⟨?_,rfl⟩)
   all_goals simp[dd,Lq,Ab,b6]
end Go.Sy
