/- Contracts: book.known, lost, named, large. -/
import Derived.Test.YtdjocfajcbhmgaaGreatDoorAu
import Derived.Test.YtdjocfajcbhmgaaGreatDoorZ23
import Derived.Test.YtdjocfajcbhmgaaGreatDoorZ12
set_option maxHeartbeats 64000000
set_option linter.unusedSimpArgs false
set_option linter.unusedVariables false
set_option linter.unusedSectionVars false
namespace Go.Sy
open Go.Proofs
set_option maxRecDepth 100000
attribute [local irreducible] SOps Goes DOps EOps FOps GOps
def pr(ps:List b7):Prop:=ps.length≤1000∧∀p∈ps,p.name.size≤100∧∀r∈p.aW,r.size≤100
theorem Oq(ps:List b7)(ls:List Loc)(hB:pr ps)(s:ByteArray):er Tryz.prog 131 [] [C1 (cK ps),C1 (dW ls),C1 (.str s)] (Rv (.bool (fX ps ls s))) []:=by
 obtain⟨K,hK⟩:∃K,K=fX ps ls s:=⟨_,rfl⟩
 rw[←hK]
 unfold fX at hK
 refine bn (c:=_) Tryz.func131 rfl rfl rfl (by decide) fun w M0 H Z=>?_
 refine il 0 J fun mA=>?_
 refine il 1 J fun nw=>?_
 simp only[ak]at mA nw
 repeat'(first|refine aA ?_|(refine aB ?_ ?_<;>first|exact aD|(refine aE ?_;intro hb))|fail)
 refine bE (fun k:Nat=>k≤ls.length∧∀i (h:i < k) (h':i < ls.length),ls[i].name≠s)
  (fun k=>[(0,.v (C1 (cK ps))),(2,.v (C1 (.str s))),(13,.v (C1 (dW ls))),(14,.v (C1 (.int .i64 (ls.length:Int)))),(15,.v (C1 (.int .i64 (k:Int))))])
  (fun _=>[]) (fun k=>ls.length - k) 0 ⟨aF _,fun i h=>by omega⟩
  aH (fun k hk ih=>?_)
 obtain⟨hk,b6⟩:=hk
 by_cases bj:k < ls.length
 ·have hx:(ls.map Loc.cs)[k]? =some (ls[k]).cs:=by simp[bj]
  have cT:=fun hp=>ih (k+1) ⟨bj,hp⟩ (by omega)
  clear ih
  have fQ:=fun(hb:ls[k].name=s)=>(show K=true by
   rw[hK,show(ls.any fun l=>decide (l.name=s))=true from cw.2 ⟨_,an bj,decide_eq_true hb⟩];rfl)
  have fJ:=fun(hb:¬ls[k].name=s)=>(show ∀i (h:i < k+1) (h':i < ls.length),ls[i].name≠s from fun i h h'=>by
   by_cases oW:i=k
   ·subst oW;exact hb
   ·exact b6 i (by omega) h')
  clear hK b6
  repeat'(first|refine aA ?_|(refine aB ?_ ?_<;>first|exact aD|(refine aE ?_;intro hb))|((first|refine bO th J J J J J J J J J k _ J hx ?_|refine bH J J J J J J (by omega) ?_);refine ao th J ?_))
  ·rw[fQ (by assumption)]
   refine aZ th Tryz.func131 (.inr ⟨_,rfl⟩) J J J ?_ rfl
   exact .refl _
  ·exact aS (cT (fJ (by assumption)))
 ·clear ih
  have gv:k=ls.length:=by omega
  subst gv
  rw[show(ls.any fun l=>decide (l.name=s))=false from fH.2 fun l hl=>by
   obtain⟨i,hi,rfl⟩:=aC.1 hl
   simpa using b6 i hi hi,gZ]at hK
  clear b6
  repeat'(first|refine aA ?_|(refine aB ?_ ?_<;>first|exact aD|(refine aE ?_;intro hb))|fail)
  refine bE (fun k:Nat=>k≤ps.length∧∀i (h:i < k) (h':i < ps.length),ps[i].aW.any (fun r=>decide (fm ps[i].name r=s))=false)
   (fun k=>[(2,.v (C1 (.str s))),(24,.v (C1 (cK ps))),(25,.v (C1 (.int .i64 (ps.length:Int)))),(26,.v (C1 (.int .i64 (k:Int))))])
   (fun _=>[]) (fun k=>ps.length - k) 0 ⟨aF _,fun i h=>by omega⟩
   aH (fun k hk ih=>?_)
  obtain⟨hk,b6⟩:=hk
  by_cases bj:k < ps.length
  ·have hx:(ps.map b7.cs)[k]? =some (ps[k]).cs:=by simp[bj]
   obtain⟨Ql,Qk⟩:=hB.2 _ (an bj)
   have cT:=fun hp=>ih (k+1) ⟨bj,hp⟩ (by omega)
   clear ih
   have fQ:=fun(hb:(ps[k].aW.any fun r=>decide (fm ps[k].name r=s))=true)=>hK.trans (show(ps.any fun p=>p.aW.any fun r=>decide (fm p.name r=s))=true from cw.2 ⟨_,an bj,hb⟩)
   have fJ:=fun(hb:(ps[k].aW.any fun r=>decide (fm ps[k].name r=s))=false)=>(show ∀i (h:i < k+1) (h':i < ps.length),(ps[i].aW.any fun r=>decide (fm ps[i].name r=s))=false from fun i h h'=>by
    by_cases oW:i=k
    ·subst oW;exact hb
    ·exact b6 i (by omega) h')
   have cT:=fun hb=>cT (fJ hb)
   clear hK b6 fJ
   generalize ps[k]=p at *
   repeat'(first|refine aA ?_|(refine aB ?_ ?_<;>first|exact aD|(refine aE ?_;intro hb))|(refine bO th J J J J J J J J J k _ J hx ?_;refine ao th J ?_))
   refine il 31 J fun BF=>?_
   simp only[ak]at BF
   refine bE (fun j:Nat=>j≤p.aW.length∧∀i (h:i < j) (h':i < p.aW.length),fm p.name p.aW[i]≠s)
    (fun j=>[(2,.v (C1 (.str s))),(24,.v (C1 (cK ps))),(25,.v (C1 (.int .i64 (ps.length:Int)))),(26,.v (C1 (.int .i64 (k:Int)))),(10,.v (.one (.ptr 10 0))),(31,.v (C1 (bL p.aW))),(32,.v (C1 (.int .i64 (p.aW.length:Int)))),(33,.v (C1 (.int .i64 (j:Int))))])
    (fun _=>[(10,.box (p.cs.map SC.c))]) (fun j=>p.aW.length - j) 0 ⟨aF _,fun i h=>by omega⟩
    aH (fun j hj n9=>?_)
   obtain⟨hj,b6⟩:=hj
   by_cases fg:j < p.aW.length
   ·have yo:(p.aW.map fun s=>[CT.str s])[j]? =some [.str p.aW[j]]:=by simp[fg]
    have Lg:=Qk _ (an fg)
    have ji:=fun hp=>n9 (j+1) ⟨fg,hp⟩ (by omega)
    clear n9 cT
    have Dm:=fun(hb:fm p.name p.aW[j]=s)=>fQ (cw.2 ⟨_,an fg,decide_eq_true hb⟩)
    have fJ:=fun(hb:¬fm p.name p.aW[j]=s)=>(show ∀i (h:i < j+1) (h':i < p.aW.length),fm p.name p.aW[i]≠s from fun i h h'=>by
     by_cases oW:i=j
     ·subst oW;exact hb
     ·exact b6 i (by omega) h')
    clear fQ b6
    repeat'(first|refine aA ?_|(refine aB ?_ ?_<;>first|exact aD|(refine aE ?_;intro hb))|(refine bO th J J J J J J J J J j _ J yo ?_;refine ao th J ?_)|(refine Gh J J J J J J (by first|(simp only[ByteArray.size_append,show(ByteArray.mk #[46]).size=1 from rfl];omega)|(simp only[show(ByteArray.mk #[46]).size=1 from rfl];omega)) ?_;refine ao th J ?_)|(refine bH J J J J J J (by omega) ?_;refine ao th J ?_))
    ·rw[Dm (by assumption)]
     refine aZ th Tryz.func131 (.inr ⟨_,rfl⟩) J J J ?_ rfl
     exact .refl _
    ·exact aS (ji (fJ (by assumption)))
   ·clear n9 fQ
    have Lz:j=p.aW.length:=by omega
    subst Lz
    have cT:=cT (fH.2 fun r hr=>by
     obtain⟨i,hi,rfl⟩:=aC.1 hr
     simpa using b6 i hi hi)
    clear b6
    repeat'(first|refine aA ?_|(refine aB ?_ ?_<;>first|exact aD|(refine aE ?_;intro hb))|(refine bH J J J J J J (by omega) ?_;refine ao th J ?_))
    exact aS cT
  ·clear ih
   have gv:k=ps.length:=by omega
   subst gv
   rw[show(ps.any fun p=>p.aW.any fun r=>decide (fm p.name r=s))=false from fH.2 fun p hp=>by
    obtain⟨i,hi,rfl⟩:=aC.1 hp
    simpa using b6 i hi hi]at hK
   rw[hK]
   repeat'(first|refine aA ?_|(refine aB ?_ ?_<;>first|exact aD|(refine aE ?_;intro hb))|refine aZ th Tryz.func131 (.inr ⟨_,rfl⟩) J J J ?_ rfl)
   all_goals exact .refl _
theorem C0(p:bD→Bool)(l:List bD)(g:Nat)(c0 c1:CT)
 (hc:∀e:bD,er Tryz.prog g [[c0],[c1]] [Ag e.cs,.one (.ptr given 0),.one (.ptr (given+1) 0)] (Rv (.bool (p e))) [[c0],[c1]]):
 er Tryz.prog 58 [[c0],[c1]] [C1 (fM l),.one (.kD g [given,given+1])] (Rv (.int .i64 (jA p l))) [[c0],[c1]]:=by
 refine bn (c:=_) Tryz.func58 rfl rfl rfl (by decide) fun w M0 H Z=>?_
 repeat'(first|refine aA ?_|(refine aB ?_ ?_<;>first|exact aD|(refine aE ?_;intro hb))|refine dw th Tryz.func58 (.inr ⟨_,rfl⟩) J J J ⟨?_,rfl⟩)
 all_goals try simp only[ak]at *
 refine il 6 J fun nw=>?_
 simp only[ak]at nw
 refine bE (fun k:Nat=>k≤l.length∧∀i (h:i < k) (h':i < l.length),p l[i]=false)
  (fun k=>[(0,.v (C1 (fM l))),(1,.v (.one (.kD g [given,given+1]))),(7,.v (C1 (.int .i64 (l.length:Int)))),(8,.v (C1 (.int .i64 (k:Int))))])
  (fun _=>[(given,.box [.c c0]),(given+1,.box [.c c1])]) (fun k=>l.length - k) 0 ⟨aF _,fun i h=>by omega⟩
  aH (fun k hk ih=>?_)
 obtain⟨hk,ha⟩:=hk
 by_cases bj:k < l.length
 ·have hx:(l.map bD.cs)[k]? =some (l[k]).cs:=by simp[bj]
  repeat'(first|refine aA ?_|(refine aB ?_ ?_<;>first|exact aD|(refine aE ?_;intro hb))|refine dw th Tryz.func58 (.inr ⟨_,rfl⟩) J J J ⟨?_,rfl⟩|((first|refine bO th J J J J J J J J J k _ J hx ?_|refine ua (hc l[k]) [given,given+1] J J J J J J J J J J J J ?_|refine bH J J J J J J (by omega) ?_);refine ao th J ?_))
  ·simp[dd,ku bj (fun i h=>ha i h (by omega)) hb]
  ·refine aS (ih (k+1) ⟨bj,fun i h h'=>?_⟩ (by omega))
   by_cases oW:i=k
   ·subst oW;exact hb
   ·exact ha i (by omega) h'
 ·have gv:k=l.length:=by omega
  subst gv
  repeat'(first|refine aA ?_|(refine aB ?_ ?_<;>first|exact aD|(refine aE ?_;intro hb))|refine dw th Tryz.func58 (.inr ⟨_,rfl⟩) J J J ⟨?_,rfl⟩)
  all_goals simp[dd,ey (fun i h=>ha i h h)]
theorem K8{α:Type}{p:α→Bool}{l:List α}:decide (jA p l≥0)=l.any p:=by
 cases hi:l.findIdx? p with
 |none=>
  rw[show jA p l=-1 by simp[jA,hi]]
  rw[bx]at hi
  symm;simp;exact hi
 |some i=>
  rw[show jA p l=(i:Int) by simp[jA,hi]]
  rw[bh]at hi
  obtain⟨h1,h2,_⟩:=hi
  symm;simp;exact⟨l[i],an h1,h2⟩
theorem xy(p:bD→Bool)(l:List bD)(g:Nat)(c0 c1:CT)
 (hc:∀e:bD,er Tryz.prog g [[c0],[c1]] [Ag e.cs,.one (.ptr given 0),.one (.ptr (given+1) 0)] (Rv (.bool (p e))) [[c0],[c1]]):
 er Tryz.prog 129 [[c0],[c1]] [C1 (fM l),.one (.kD g [given,given+1])] (Rv (.bool (l.any p))) [[c0],[c1]]:=by
 have cY:=C0 p l g c0 c1 hc
 rw[←K8]
 refine bn (c:=_) Tryz.func129 rfl rfl rfl (by decide) fun w M0 H Z=>?_
 repeat'(first|refine aA ?_|(refine aB ?_ ?_<;>first|exact aD|(refine aE ?_;intro hb))|refine dw th Tryz.func129 (.inr ⟨_,rfl⟩) J J J ⟨?_,rfl⟩|(refine aR cY [given,given+1] J J J J J J J J J J ?_;refine ao th J ?_))
 all_goals simp[dd]
theorem Oj(ps:List b7)(ls:List Loc)(hB:pr ps)(a:bD):er Tryz.prog 130 [[cK ps],[dW ls]] [Ag a.cs,.one (.ptr given 0),.one (.ptr (given+1) 0)] (Rv (.bool (decide (a.kind=5)&&!fX ps ls a.name))) [[cK ps],[dW ls]]:=by
 have cY:=Oq ps ls hB a.name
 by_cases h5:a.kind=5
 all_goals
  simp only[h5,decide_true,decide_false,bZ,Bool.false_and]
  refine bn (c:=_) Tryz.func130 rfl rfl rfl (by decide) fun w M0 H Z=>?_
  repeat'(first|(exfalso;exact hb h5)|(exfalso;exact h5 hb)|refine aA ?_|(refine aB ?_ ?_<;>first|exact aD|(refine aE ?_;intro hb))|refine aZ th Tryz.func130 (.inr ⟨_,rfl⟩) J J J ?_ rfl|(refine aR cY [] J J J J J J J J J J ?_;refine ao th J ?_))
  all_goals first|exact .refl _|(exfalso;revert hb;simp[h5];done)|(exact fx (by simp[h5]))
theorem PC(ps:List b7)(ls:List Loc)(hB:pr ps)(ax:List bD):er Tryz.prog 92 [] [C1 (cK ps),C1 (dW ls),C1 (fM ax)] (Rv (.bool (kt (fX ps ls) ax))) []:=by
 have cY:=xy _ ax _ _ _ (Oj ps ls hB)
 unfold kt
 refine bn (c:=_) Tryz.func92 rfl rfl rfl (by decide) fun w M0 H Z=>?_
 repeat'(first|refine aA ?_|(refine aB ?_ ?_<;>first|exact aD|(refine aE ?_;intro hb))|refine aZ th Tryz.func92 (.inr ⟨_,rfl⟩) J J J ?_ rfl|(refine aR cY [3,4] J J J J J J J J J J ?_;refine ao th J ?_))
 all_goals exact .refl _
theorem Om(x:List (Nat×Loc))(Uf:∀q∈x,q.2.turns.length≤1000):er Tryz.prog 47 [] [C1 (iL x)] (si (gG 0 x)) []:=by
 obtain⟨F,hF⟩:∃F,F=gG 0 x:=⟨_,rfl⟩
 rw[←hF]
 refine bn (c:=_) Tryz.func47 rfl rfl rfl (by decide) fun w M0 H Z=>?_
 refine il 0 J fun mA=>?_
 simp only[ak]at mA
 repeat'(first|refine aA ?_|(refine aB ?_ ?_<;>first|exact aD|(refine aE ?_;intro hb))|fail)
 refine fz (fun(k c:Nat)=>k≤x.length∧F=gG c (x.drop k)∧c≤400)
  (fun k c=>[(2,.v (.one (.ptr 2 0))),(3,.v (C1 (.int .i64 (c:Int)))),(6,.v (C1 (iL x))),(7,.v (C1 (.int .i64 (x.length:Int)))),(8,.v (C1 (.int .i64 (k:Int))))])
  (fun _ _=>[(2,rB)]) (fun k _=>x.length - k) 0 0 ⟨aF _,hF,by omega⟩
  aH (fun k c hk ih=>?_)
 obtain⟨hk,cZ,hc⟩:=hk
 by_cases bj:k < x.length
 ·have hx:(x.map qn)[k]? =some (qn x[k]):=by simp[bj]
  have hl4:=Uf _ (an bj)
  rw[cX bj,gG]at cZ
  have fQ:=fun(h0:400 < c+x[k].2.turns.length)=>(show F=(904,(x[k].1:Int),-1) by rw[cZ,if_pos h0])
  have cT:=fun(h0:¬400 < c+x[k].2.turns.length)=>ih (k+1) (c+x[k].2.turns.length) ⟨bj,by rw[cZ,if_neg h0],by omega⟩ (by omega)
  clear ih cZ
  generalize x[k]=q at *
  have hI:((q.2.turns.map jk.cs).length:Int)=(q.2.turns.length:Int):=by simp
  repeat'(first|refine aA ?_|(refine aB ?_ ?_<;>first|exact aD|(refine aE ?_;intro hb))|(refine bO th J J J J J J J J J k _ J hx ?_;refine ao th J ?_)|(refine bH J J J J J J (by first|omega|(simp only[ak];omega)) ?_;refine ao th J ?_)|(refine aR (mf 904 (q.1:Int) (-1)) [] J J J J J J J J J J ?_;refine ao th J ?_))
  all_goals simp only[ak]at *
  ·rw[fQ (by omega)]
   refine aZ th Tryz.func47 (.inr ⟨_,rfl⟩) J J J ?_ rfl
   exact .refl _
  ·exact aS (cT (by omega))
 ·clear ih
  rw[jf (by omega),gG]at cZ
  rw[cZ]
  repeat'(first|refine aA ?_|(refine aB ?_ ?_<;>first|exact aD|(refine aE ?_;intro hb))|refine aZ th Tryz.func47 (.inr ⟨_,rfl⟩) J J J ?_ rfl)
  all_goals exact .refl _
theorem zp{K:ByteArray→Bool}{g:List (List bD)}{k:Nat}(hk:k < g.length)(ha:∀i (h:i < k),kt K (g[i]'(by omega))=false)(hp:kt K g[k]=true):gJ K g=(k:Int):=ku hk ha hp
theorem wM{K:ByteArray→Bool}{g:List (List bD)}(ha:∀i (h:i < g.length),kt K g[i]=false):gJ K g=-1:=ey ha
theorem getD_at{α:Type}{l:List α}{k:Nat}(h:k < l.length)(d:α):l.getD ((k:Int)).toNat d=l[k]:=by
 rw[fI,aG,aa h];rfl
theorem Of(ps:List b7)(ls:List Loc)(hB:pr ps)(hl12:ls.length≤12):er Tryz.prog 45 [] [C1 (cK ps),C1 (dW ls)] (si (j4 (fX ps ls) ps ls)) []:=by
 have Qm:=PC ps ls hB
 have hp1000:=hB.1
 generalize fX ps ls=K at *
 obtain⟨F,hF⟩:∃F,F=j4 K ps ls:=⟨_,rfl⟩
 rw[←hF]
 unfold j4 at hF
 refine bn (c:=_) Tryz.func45 rfl rfl rfl (by decide) fun w M0 H Z=>?_
 refine il 0 J fun mA=>?_
 refine il 1 J fun nw=>?_
 simp only[ak]at mA nw
 repeat'(first|refine aA ?_|(refine aB ?_ ?_<;>first|exact aD|(refine aE ?_;intro hb))|fail)
 refine bE (fun k:Nat=>k≤ps.length∧∀i (h:i < k) (h':i < ps.length),gJ K ps[i].g=-1)
  (fun k=>[(0,.v (C1 (cK ps))),(1,.v (C1 (dW ls))),(4,.v (.one (.ptr 4 0))),(13,.v (C1 (cK ps))),(14,.v (C1 (.int .i64 (ps.length:Int)))),(15,.v (C1 (.int .i64 (k:Int))))])
  (fun _=>[(4,rB)]) (fun k=>ps.length - k) 0 ⟨aF _,fun i h=>by omega⟩
  aH (fun k hk ih=>?_)
 obtain⟨hk,b6⟩:=hk
 by_cases bj:k < ps.length
 ·have hx:(ps.map b7.cs)[k]? =some (ps[k]).cs:=by simp[bj]
  have cT:=fun hp=>ih (k+1) ⟨bj,hp⟩ (by omega)
  clear ih
  have fQ:=fun(j:Nat) (hb:gJ K ps[k].g=(j:Int))=>hF.trans (by
   rw[ku (p:=fun p:b7=>decide (0≤gJ K p.g)) bj (fun i hi=>by simp[b6 i hi (by omega)]) (by simp[hb]),if_pos (by omega),getD_at bj,hb])
  have fJ:=fun(hb:gJ K ps[k].g=-1)=>(show ∀i (h:i < k+1) (h':i < ps.length),gJ K ps[i].g=-1 from fun i h h'=>by
   by_cases oW:i=k
   ·subst oW;exact hb
   ·exact b6 i (by omega) h')
  have cT:=fun hb=>cT (fJ hb)
  clear hF b6 fJ
  generalize ps[k]=p at *
  repeat'(first|refine aA ?_|(refine aB ?_ ?_<;>first|exact aD|(refine aE ?_;intro hb))|(refine bO th J J J J J J J J J k _ J hx ?_;refine ao th J ?_))
  refine il 21 J fun RT=>?_
  simp only[ak]at RT
  refine bE (fun j:Nat=>j≤p.points.length∧∀i (h:i < j) (h':i < p.points.length),kt K p.points[i].ax=false)
   (fun j=>[(0,.v (C1 (cK ps))),(1,.v (C1 (dW ls))),(4,.v (.one (.ptr 4 0))),(13,.v (C1 (cK ps))),(14,.v (C1 (.int .i64 (ps.length:Int)))),(15,.v (C1 (.int .i64 (k:Int)))),(5,.v (C1 (.int .i64 (k:Int)))),(21,.v (C1 (lZ p.points))),(22,.v (C1 (.int .i64 (p.points.length:Int)))),(23,.v (C1 (.int .i64 (j:Int))))])
   (fun _=>[(4,rB)]) (fun j=>p.points.length - j) 0 ⟨aF _,fun i h=>by omega⟩
   aH (fun j hj n9=>?_)
  obtain⟨hj,b6⟩:=hj
  by_cases fg:j < p.points.length
  ·have wX:(p.points.map kP.cs)[j]? =some (p.points[j]).cs:=by simp[fg]
   have cY:=Qm p.points[j].ax
   have ji:=fun hp=>n9 (j+1) ⟨fg,hp⟩ (by omega)
   clear n9 cT
   have Ed:j < p.g.length:=by simpa[b7.g]using fg
   have Dm:=fun(hb:kt K p.points[j].ax=true)=>fQ j (zp Ed (fun i hi=>by simpa[b7.g]using b6 i hi (by omega)) (by simpa[b7.g]using hb))
   have fJ:=fun(hb:kt K p.points[j].ax=false)=>(show ∀i (h:i < j+1) (h':i < p.points.length),kt K p.points[i].ax=false from fun i h h'=>by
    by_cases oW:i=j
    ·subst oW;exact hb
    ·exact b6 i (by omega) h')
   have ji:=fun hb=>ji (fJ hb)
   clear fQ b6 fJ
   cases sD:kt K p.points[j].ax
   all_goals
    rw[sD]at cY
    repeat'(first|(exfalso;revert hb;simp;done)|refine aA ?_|(refine aB ?_ ?_<;>first|exact aD|(refine aE ?_;intro hb))|((first|refine bO th J J J J J J J J J j _ J wX ?_|refine aR cY [] J J J J J J J J J J ?_|refine aR (mf 903 (k:Int) (j:Int)) [] J J J J J J J J J J ?_|refine bH J J J J J J (by omega) ?_);refine ao th J ?_))
    first
    |(rw[Dm sD]
      refine aZ th Tryz.func45 (.inr ⟨_,rfl⟩) J J J ?_ rfl
      exact .refl _)
    |exact aS (ji sD)
  ·clear n9 fQ
   have Lz:j=p.points.length:=by omega
   subst Lz
   have cT:=cT (wM fun i hi=>by
    have LB:i < p.points.length:=by simpa[b7.g]using hi
    simpa[b7.g]using b6 i LB LB)
   clear b6
   repeat'(first|refine aA ?_|(refine aB ?_ ?_<;>first|exact aD|(refine aE ?_;intro hb))|(refine bH J J J J J J (by omega) ?_;refine ao th J ?_))
   exact aS cT
 ·clear ih
  have gv:k=ps.length:=by omega
  subst gv
  rw[ey (p:=fun p:b7=>decide (0≤gJ K p.g)) (fun i hi=>by simp[b6 i hi hi]),if_neg (by omega)]at hF
  clear b6
  repeat'(first|refine aA ?_|(refine aB ?_ ?_<;>first|exact aD|(refine aE ?_;intro hb))|fail)
  refine bE (fun k:Nat=>k≤ls.length∧∀i (h:i < k) (h':i < ls.length),gJ K ls[i].g=-1)
   (fun k=>[(0,.v (C1 (cK ps))),(1,.v (C1 (dW ls))),(4,.v (.one (.ptr 4 0))),(38,.v (C1 (dW ls))),(39,.v (C1 (.int .i64 (ls.length:Int)))),(40,.v (C1 (.int .i64 (k:Int))))])
   (fun _=>[(4,rB)]) (fun k=>ls.length - k) 0 ⟨aF _,fun i h=>by omega⟩
   aH (fun k hk ih=>?_)
  obtain⟨hk,b6⟩:=hk
  by_cases bj:k < ls.length
  ·have hx:(ls.map Loc.cs)[k]? =some (ls[k]).cs:=by simp[bj]
   have cT:=fun hp=>ih (k+1) ⟨bj,hp⟩ (by omega)
   clear ih
   have fQ:=fun(j:Nat) (hb:gJ K ls[k].g=(j:Int))=>hF.trans (by
    rw[ku (p:=fun l:Loc=>decide (0≤gJ K l.g)) bj (fun i hi=>by simp[b6 i hi (by omega)]) (by simp[hb]),if_pos (by omega),getD_at bj,hb])
   have fJ:=fun(hb:gJ K ls[k].g=-1)=>(show ∀i (h:i < k+1) (h':i < ls.length),gJ K ls[i].g=-1 from fun i h h'=>by
    by_cases oW:i=k
    ·subst oW;exact hb
    ·exact b6 i (by omega) h')
   have cT:=fun hb=>cT (fJ hb)
   clear hF b6 fJ
   generalize ls[k]=p at *
   repeat'(first|refine aA ?_|(refine aB ?_ ?_<;>first|exact aD|(refine aE ?_;intro hb))|(refine bO th J J J J J J J J J k _ J hx ?_;refine ao th J ?_))
   refine il 46 J fun RT=>?_
   simp only[ak]at RT
   refine bE (fun j:Nat=>j≤p.turns.length∧∀i (h:i < j) (h':i < p.turns.length),kt K p.turns[i].ax=false)
    (fun j=>[(0,.v (C1 (cK ps))),(1,.v (C1 (dW ls))),(4,.v (.one (.ptr 4 0))),(38,.v (C1 (dW ls))),(39,.v (C1 (.int .i64 (ls.length:Int)))),(40,.v (C1 (.int .i64 (k:Int)))),(9,.v (C1 (.int .i64 (k:Int)))),(46,.v (C1 (sJ p.turns))),(47,.v (C1 (.int .i64 (p.turns.length:Int)))),(48,.v (C1 (.int .i64 (j:Int))))])
    (fun _=>[(4,rB)]) (fun j=>p.turns.length - j) 0 ⟨aF _,fun i h=>by omega⟩
    aH (fun j hj n9=>?_)
   obtain⟨hj,b6⟩:=hj
   by_cases fg:j < p.turns.length
   ·have wX:(p.turns.map jk.cs)[j]? =some (p.turns[j]).cs:=by simp[fg]
    have cY:=Qm p.turns[j].ax
    have ji:=fun hp=>n9 (j+1) ⟨fg,hp⟩ (by omega)
    clear n9 cT
    have Ed:j < p.g.length:=by simpa[Loc.g]using fg
    have Dm:=fun(hb:kt K p.turns[j].ax=true)=>fQ j (zp Ed (fun i hi=>by simpa[Loc.g]using b6 i hi (by omega)) (by simpa[Loc.g]using hb))
    have fJ:=fun(hb:kt K p.turns[j].ax=false)=>(show ∀i (h:i < j+1) (h':i < p.turns.length),kt K p.turns[i].ax=false from fun i h h'=>by
     by_cases oW:i=j
     ·subst oW;exact hb
     ·exact b6 i (by omega) h')
    have ji:=fun hb=>ji (fJ hb)
    clear fQ b6 fJ
    cases sD:kt K p.turns[j].ax
    all_goals
     rw[sD]at cY
     repeat'(first|(exfalso;revert hb;simp;done)|refine aA ?_|(refine aB ?_ ?_<;>first|exact aD|(refine aE ?_;intro hb))|((first|refine bO th J J J J J J J J J j _ J wX ?_|refine aR cY [] J J J J J J J J J J ?_);refine ao th J ?_)|(refine bH J J J J J J (by first|omega|(simp only[ak];omega)) ?_;refine ao th J ?_)|(refine aR (mf 903 (((ps.map b7.cs).length:Nat)+(k:Int)) (j:Int)) [] J J J J J J J J J J ?_;refine ao th J ?_))
     first
     |(rw[Dm sD]
       refine aZ th Tryz.func45 (.inr ⟨_,rfl⟩) J J J ?_ rfl
       simp only[ak]
       exact .refl _)
     |exact aS (ji sD)
   ·clear n9 fQ
    have Lz:j=p.turns.length:=by omega
    subst Lz
    have cT:=cT (wM fun i hi=>by
     have LB:i < p.turns.length:=by simpa[Loc.g]using hi
     simpa[Loc.g]using b6 i LB LB)
    clear b6
    repeat'(first|refine aA ?_|(refine aB ?_ ?_<;>first|exact aD|(refine aE ?_;intro hb))|(refine bH J J J J J J (by omega) ?_;refine ao th J ?_))
    exact aS cT
  ·clear ih
   have gv:k=ls.length:=by omega
   subst gv
   rw[ey (p:=fun l:Loc=>decide (0≤gJ K l.g)) (fun i hi=>by simp[b6 i hi hi]),if_neg (by omega)]at hF
   rw[hF]
   repeat'(first|refine aA ?_|(refine aB ?_ ?_<;>first|exact aD|(refine aE ?_;intro hb))|refine aZ th Tryz.func45 (.inr ⟨_,rfl⟩) J J J ?_ rfl)
   all_goals exact .refl _
end Go.Sy
