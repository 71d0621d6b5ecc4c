/- Contracts: book.fault, formed, twice. -/
import Derived.Test.YtdjocfajcbhmgaaGreatDoorAu
import Derived.Test.YtdjocfajcbhmgaaGreatDoorZ4
import Derived.Test.YtdjocfajcbhmgaaGreatDoorZ22
import Derived.Test.YtdjocfajcbhmgaaGreatDoorZ12
set_option maxHeartbeats 64000000
set_option linter.unusedSimpArgs false
set_option linter.unusedVariables false
set_option linter.unusedSectionVars false
namespace Go.Sy
open Go.Proofs
set_option maxRecDepth 100000
attribute [local irreducible] SOps Goes DOps EOps FOps GOps
abbrev cK(l:List b7):CT:=.slice false 3 (l.map b7.cs)
abbrev yx(f:sF):List CT:=[.int .i64 f.1,.int .i64 f.2.1,.int .i64 f.2.2]
abbrev si(f:sF):ST:=.v (Ag (yx f))
abbrev rB:MO:=.box [.c (.int .i64 0),.c (.int .i64 0),.c (.int .i64 0)]
theorem xP{α β:Type}(a:List β)(f:α→β){l:List α}{k:Nat}(h:k < l.length):a++(l.take (k+1)).map f=(a++(l.take k).map f)++[f l[k]]:=by
 rw[al h,bg,bf];rfl
theorem mf(e i k:Int):er Tryz.prog 88 [] [C1 (.int .i64 e),C1 (.int .i64 i),C1 (.int .i64 k)] (si (e,i,k)) []:=by
 refine bn (c:=_) Tryz.func88 rfl rfl rfl (by decide) fun w M0 H Z=>?_
 repeat'(first|refine aA ?_|(refine aB ?_ ?_<;>first|exact aD|(refine aE ?_;intro hb))|refine aZ th Tryz.func88 (.inr ⟨_,rfl⟩) J J J ?_ rfl)
 all_goals exact .refl _
theorem L1(ps:List b7)(ls:List Loc)(hB:∀p∈ps,ix p)(hL:∀l∈ls,pt l):er Tryz.prog 39 [] [C1 (cK ps),C1 (dW ls)] (si (kz ps ls)) []:=by
 by_cases h1:6 < ps.length∨12 < ls.length
 ·rw[show kz ps ls=(900,-1,-1) by unfold kz;rw[if_pos h1]]
  refine bn (c:=_) Tryz.func39 rfl rfl rfl (by decide) fun w M0 H Z=>?_
  repeat'(first|refine aA ?_|(refine aB ?_ ?_<;>first|exact aD|(refine aE ?_;intro hb))|(refine aR (mf 900 (-1) (-1)) [] J J J J J J J J J J ?_;refine ao th J ?_))
  all_goals first
   |(exfalso;simp only[ak]at *;omega)
   |(refine aZ th Tryz.func39 (.inr ⟨_,rfl⟩) J J J ?_ rfl
     exact .refl _)
 ·obtain⟨F,hF⟩:∃F,F=kz ps ls:=⟨_,rfl⟩
  rw[←hF]
  unfold kz at hF
  rw[if_neg h1]at hF
  refine bn (c:=_) Tryz.func39 rfl rfl rfl (by decide) fun w M0 H Z=>?_
  refine il 0 J fun mA=>?_
  refine il 1 J fun nw=>?_
  simp only[ak]at mA nw
  repeat'(first|refine aA ?_|(refine aB ?_ ?_<;>first|exact aD|(refine aE ?_;intro hb))|fail)
  all_goals first|(exfalso;simp only[ak]at *;omega)|skip
  refine bE (fun k:Nat=>k≤ps.length∧∀i (h:i < k) (h':i < ps.length),dj ps[i]=true)
   (fun k=>[(0,.v (C1 (cK ps))),(1,.v (C1 (dW ls))),(4,.v (.one (.ptr 4 0))),(18,.v (C1 (cK ps))),(19,.v (C1 (.int .i64 (ps.length:Int)))),(20,.v (C1 (.int .i64 (k:Int))))])
   (fun _=>[(4,rB)]) (fun k=>ps.length - k) 0 ⟨aF _,fun i h=>by omega⟩
   aH (fun k hk ih=>?_)
  obtain⟨hk,b6⟩:=hk
  by_cases bj:k < ps.length
  ·have hx:(ps.map b7.cs)[k]? =some (ps[k]).cs:=by simp[bj]
   have cY:=xf ps[k] (hB _ (an bj))
   have cT:=fun hp=>ih (k+1) ⟨bj,hp⟩ (by omega)
   clear ih
   have fQ:=fun(hb:dj ps[k]=false)=>hF.trans (by
    rw[ku (p:=fun p=>!dj p) bj (fun i hi=>by simp[b6 i hi (by omega)]) (by simp[hb]),if_pos (by omega)])
   have fJ:=fun(hb:dj ps[k]=true)=>(show ∀i (h:i < k+1) (h':i < ps.length),dj ps[i]=true from fun i h h'=>by
    by_cases oW:i=k
    ·subst oW;exact hb
    ·exact b6 i (by omega) h')
   clear hF b6
   repeat'(first|refine aA ?_|(refine aB ?_ ?_<;>first|exact aD|(refine aE ?_;intro hb))|((first|refine bO th J J J J J J J J J k _ J hx ?_|refine aR cY [] J J J J J J J J J J ?_|refine aR (mf 900 (k:Int) (-1)) [] J J J J J J J J J J ?_|refine bH J J J J J J (by omega) ?_);refine ao th J ?_))
   ·rw[fQ hb]
    refine aZ th Tryz.func39 (.inr ⟨_,rfl⟩) J J J ?_ rfl
    exact .refl _
   ·exact aS (cT (fJ hb))
  ·clear ih
   have gv:k=ps.length:=by omega
   subst gv
   rw[ey (p:=fun p=>!dj p) (fun i hi=>by simp[b6 i hi hi]),if_neg (by omega)]at hF
   clear b6
   repeat'(first|refine aA ?_|(refine aB ?_ ?_<;>first|exact aD|(refine aE ?_;intro hb))|fail)
   refine bE (fun k:Nat=>k≤ls.length∧∀i (h:i < k) (h':i < ls.length),(fP ls[i]&&cg ls[i].name)=true)
    (fun k=>[(0,.v (C1 (cK ps))),(4,.v (.one (.ptr 4 0))),(31,.v (C1 (dW ls))),(32,.v (C1 (.int .i64 (ls.length:Int)))),(33,.v (C1 (.int .i64 (k:Int))))])
    (fun _=>[(4,rB)]) (fun k=>ls.length - k) 0 ⟨aF _,fun i h=>by omega⟩
    aH (fun k hk ih=>?_)
   obtain⟨hk,b6⟩:=hk
   by_cases bj:k < ls.length
   ·have hx:(ls.map Loc.cs)[k]? =some (ls[k]).cs:=by simp[bj]
    have cY:=An ls[k] (hL _ (an bj))
    have UB:=qq ls[k].name
    have cT:=fun hp=>ih (k+1) ⟨bj,hp⟩ (by omega)
    clear ih
    have fQ:=fun(hb:(fP ls[k]&&cg ls[k].name)=false)=>hF.trans (by
     rw[ku (p:=fun l:Loc=>!(fP l&&cg l.name)) bj (fun i hi=>by show(!(fP ls[i]&&cg ls[i].name))=false;rw[b6 i hi (by omega)];rfl) (by show(!(fP ls[k]&&cg ls[k].name))=true;rw[hb];rfl),if_pos (by omega)])
    have fJ:=fun(hb:(fP ls[k]&&cg ls[k].name)=true)=>(show ∀i (h:i < k+1) (h':i < ls.length),(fP ls[i]&&cg ls[i].name)=true from fun i h h'=>by
     by_cases oW:i=k
     ·subst oW;exact hb
     ·exact b6 i (by omega) h')
    clear hF b6
    cases Ix:fP ls[k]
    all_goals
     cases Qp:cg ls[k].name
     all_goals
      rw[Ix]at cY
      rw[Qp]at UB
      rw[Ix,Qp]at fQ fJ
      repeat'(first|(exfalso;revert hb;simp;done)|refine aA ?_|(refine aB ?_ ?_<;>first|exact aD|(refine aE ?_;intro hb))|((first|refine bO th J J J J J J J J J k _ J hx ?_|refine aR cY [] J J J J J J J J J J ?_|refine aR UB [] J J J J J J J J J J ?_);refine ao th J ?_)|(refine bH J J J J J J (by first|omega|(simp only[ak];omega)) ?_;refine ao th J ?_)|(refine aR (mf 900 (((ps.map b7.cs).length:Nat)+(k:Int)) (-1)) [] J J J J J J J J J J ?_;refine ao th J ?_))
      all_goals first
       |(rw[fQ J]
         refine aZ th Tryz.func39 (.inr ⟨_,rfl⟩) J J J ?_ rfl
         simp only[ak]
         exact .refl _)
       |exact aS (cT (fJ J))
   ·clear ih
    have gv:k=ls.length:=by omega
    subst gv
    rw[ey (p:=fun l:Loc=>!(fP l&&cg l.name)) (fun i hi=>by show(!(fP ls[i]&&cg ls[i].name))=false;rw[b6 i hi hi];rfl),if_neg (by omega)]at hF
    rw[hF]
    repeat'(first|refine aA ?_|(refine aB ?_ ?_<;>first|exact aD|(refine aE ?_;intro hb))|refine aZ th Tryz.func39 (.inr ⟨_,rfl⟩) J J J ?_ rfl)
    all_goals exact .refl _
theorem M9(ps:List b7)(ls:List Loc)(hp:ps.length≤6)(hl:ls.length≤12):er Tryz.prog 41 [] [C1 (cK ps),C1 (dW ls)] (si (jX (sw ps ls))) []:=by
 obtain⟨all,gf⟩:∃all,all=sw ps ls:=⟨_,rfl⟩
 rw[←gf]
 refine bn (c:=_) Tryz.func41 rfl rfl rfl (by decide) fun w M0 H Z=>?_
 repeat'(first|refine aA ?_|(refine aB ?_ ?_<;>first|exact aD|(refine aE ?_;intro hb))|fail)
 refine pX 5 200 9 1 J J J ?_
 refine bE (fun k:Nat=>k≤ps.length)
  (fun k=>[(1,.v (C1 (dW ls))),(4,.v (.one (.ptr 4 0))),(5,.v (.one (.own 200))),(12,.v (C1 (cK ps))),(13,.v (C1 (.int .i64 (ps.length:Int)))),(14,.v (C1 (.int .i64 (k:Int))))])
  (fun k=>[(200,.arr false 9 1 (((ps.take k).map b7.name).map fun s=>[CT.str s])),(4,rB)]) (fun k=>ps.length - k) 0 (aF _)
  aH (fun k hk ih=>?_)
 by_cases bj:k < ps.length
 ·have hx:(ps.map b7.cs)[k]? =some (ps[k]).cs:=by simp[bj]
  have cT:=ih (k+1) bj (by omega)
  rw[al bj,bg,bg]at cT
  clear ih
  repeat'(first|refine aA ?_|(refine aB ?_ ?_<;>first|exact aD|(refine aE ?_;intro hb))|(refine bO th J J J J J J J J J k _ J hx ?_;refine ao th J ?_)|(refine eo th J J J J J J J J J J J J J J J (by constructor<;>simp<;>omega) ?_;refine ao th J ?_)|(refine bH J J J J J J (by omega) ?_;refine ao th J ?_))
  exact aS cT
 ·clear ih
  have gv:k=ps.length:=by omega
  subst gv
  rw[bq]
  repeat'(first|refine aA ?_|(refine aB ?_ ?_<;>first|exact aD|(refine aE ?_;intro hb))|fail)
  refine bE (fun k:Nat=>k≤ls.length)
   (fun k=>[(4,.v (.one (.ptr 4 0))),(5,.v (.one (.own 200))),(24,.v (C1 (dW ls))),(25,.v (C1 (.int .i64 (ls.length:Int)))),(26,.v (C1 (.int .i64 (k:Int))))])
   (fun k=>[(200,.arr false 9 1 ((ps.map b7.name++(ls.take k).map Loc.name).map fun s=>[CT.str s])),(4,rB)]) (fun k=>ls.length - k) 0 (aF _)
   (aH (h2:=by exact⟨⟨_,rfl,fE (by simp)⟩,⟨_,rfl,.refl _⟩,trivial⟩)) (fun k hk ih=>?_)
  by_cases bj:k < ls.length
  ·have hx:(ls.map Loc.cs)[k]? =some (ls[k]).cs:=by simp[bj]
   have cT:=ih (k+1) bj (by omega)
   rw[xP _ _ bj,bg]at cT
   clear ih
   repeat'(first|refine aA ?_|(refine aB ?_ ?_<;>first|exact aD|(refine aE ?_;intro hb))|(refine bO th J J J J J J J J J k _ J hx ?_;refine ao th J ?_)|(refine eo th J J J J J J J J J J J J J J J (by constructor<;>simp<;>omega) ?_;refine ao th J ?_)|(refine bH J J J J J J (by omega) ?_;refine ao th J ?_))
   exact aS cT
  ·clear ih
   have gv:k=ls.length:=by omega
   subst gv
   rw[bq,show ps.map b7.name++ls.map Loc.name=all from gf.symm]
   have BI:all.length≤18:=by rw[gf];simp[sw];omega
   clear gf
   obtain⟨F,hF⟩:∃F,F=jX all:=⟨_,rfl⟩
   rw[←hF]
   unfold jX Pg at hF
   repeat'(first|(refine dY 200 J J ?_)|refine aA ?_|(refine aB ?_ ?_<;>first|exact aD|(refine aE ?_;intro hb))|fail)
   refine bE (fun k:Nat=>k≤all.length∧∀i (h:i < k),decide (fC all (all.getD i ⟨#[]⟩) < (i:Int))=false)
    (fun k=>[(4,.v (.one (.ptr 4 0))),(5,.v (C1 (bL all))),(36,.v (C1 (bL all))),(37,.v (C1 (.int .i64 (all.length:Int)))),(38,.v (C1 (.int .i64 (k:Int))))])
    (fun _=>[(4,rB)]) (fun k=>all.length - k) 0 ⟨aF _,fun i h=>by omega⟩
    aH (fun k hk ih=>?_)
   obtain⟨hk,b6⟩:=hk
   by_cases bj:k < all.length
   ·have hx:(all.map fun s=>[CT.str s])[k]? =some [.str all[k]]:=by simp[bj]
    have cY:=AA all all[k]
    have M7:all.getD k ⟨#[]⟩=all[k]:=by rw[aG,aa bj];rfl
    have cT:=fun hp=>ih (k+1) ⟨bj,hp⟩ (by omega)
    clear ih
    have fQ:=fun(hb:fC all all[k] < (k:Int))=>hF.trans (by
     rw[ku (p:=fun i:Nat=>decide (fC all (all.getD i ⟨#[]⟩) < (i:Int))) (l:=List.range all.length) (k:=k) (by simpa using bj) (fun i hi=>by simpa using b6 i hi) (by simp only[rq];rw[M7];exact decide_eq_true hb),if_pos (by omega)])
    have fJ:=fun(hb:¬fC all all[k] < (k:Int))=>(show ∀i (h:i < k+1),decide (fC all (all.getD i ⟨#[]⟩) < (i:Int))=false from fun i h=>by
     by_cases oW:i=k
     ·subst oW;rw[M7];simpa using hb
     ·exact b6 i (by omega))
    clear hF b6
    repeat'(first|refine aA ?_|(refine aB ?_ ?_<;>first|exact aD|(refine aE ?_;intro hb))|((first|refine bO th J J J J J J J J J k _ J hx ?_|refine aR cY [] J J J J J J J J J J ?_|refine aR (mf 901 (k:Int) (-1)) [] J J J J J J J J J J ?_|refine bH J J J J J J (by omega) ?_);refine ao th J ?_))
    ·rw[fQ hb]
     refine aZ th Tryz.func41 (.inr ⟨_,rfl⟩) J J J ?_ rfl
     exact .refl _
    ·exact aS (cT (fJ hb))
   ·clear ih
    have gv:k=all.length:=by omega
    subst gv
    rw[ey (fun i hi=>by simp only[rq];exact b6 i (by simpa using hi)),if_neg (by omega)]at hF
    rw[hF]
    repeat'(first|refine aA ?_|(refine aB ?_ ?_<;>first|exact aD|(refine aE ?_;intro hb))|refine aZ th Tryz.func41 (.inr ⟨_,rfl⟩) J J J ?_ rfl)
    all_goals exact .refl _
abbrev qn(q:Nat×Loc):List CT:=[.int .i64 (q.1:Int),.str q.2.name,sJ q.2.turns]
abbrev iL(x:List (Nat×Loc)):CT:=.slice false 3 (x.map qn)
abbrev Kf(r:List (Nat×Loc)×sF):ST:=.fo [C1 (iL r.1),Ag (yx r.2)]
theorem E4(f:sF):BL (.fo [C1 .bA,Ag (yx f)]) (Kf ([],f)):=.fo (.cons (.one (.c (.nil 3))) (.cons (.refl _) .nil))
theorem El(ls:List Loc)(l:Loc)(i:Nat):lU i (ls++[l])=lU i ls++[(i+ls.length,ox l)]:=by
 induction ls generalizing i with
 |nil=>rfl
 |cons m ls ih=>rw[cH,lU,ih,lU,cd,cH,show i+1+ls.length=i+(ls.length+1) by omega]
theorem yL:∀(ls:List Loc) (i:Nat),(lU i ls).length=ls.length
 |[],_=>rfl
 |l::ls,i=>by rw[lU,cd,yL ls,cd]
theorem y6:∀(ps:List b7) (i:Nat) (out:List (Nat×Loc)),(∀p∈ps,(kg p).1.1.length≤1000)→(jP i ps out).1.length≤out.length+1000 * ps.length
 |[],_,_,_=>by simp[jP]
 |p::ps,i,out,h=>by
  rw[jP]
  split
  ·have:=y6 ps (i+1) (out++(kg p).1.1.map fun l=>(i,l)) fun q hq=>h q (ab _ hq)
   have h1:=h p ah
   simp only[au,ak,cd]at this⊢
   omega
  ·simp
theorem DY{p:b7}:∀(l:List ByteArray) (i:Nat) (out:List Loc),(re p i l out).1.1.length≤out.length+l.length
 |[],_,out=>by simp[re]
 |r::l,i,out=>by
  rw[re]
  split
  ·have:=DY (p:=p) l (i+1) (out++[(dm p r).1])
   simp only[au,cd,lH]at this⊢
   omega
  ·simp
theorem D1(p:b7):(kg p).1.1.length≤1000:=by
 unfold kg
 cases hv:dj p with
 |false=>simp
 |true=>
  rw[if_pos J]
  have:=DY (p:=p) p.aW 0 []
  have:=hJ hv
  simp only[lH]at *
  omega
theorem Az(ps:List b7)(ls:List Loc)(hp:ps.length≤6)(hl:ls.length≤12)(gf:∀p∈ps,er Tryz.prog 91 [] [Ag p.cs] (PO (kg p)) [])(hL:∀l∈ls,pt l∧fP l=true):er Tryz.prog 43 [] [C1 (cK ps),C1 (dW ls)] (Kf (fe ps ls)) []:=by
 obtain⟨RS,OU⟩:∃RS,RS=jP 0 ps []:=⟨_,rfl⟩
 have hout:RS.1.length≤6000:=by
  rw[OU]
  have:=y6 ps 0 [] fun p _=>D1 p
  simp only[lH]at this
  omega
 have qg:fe ps ls=if RS.2=lo then(RS.1++lU ps.length ls,lo)else([],RS.2):=by rw[OU];rfl
 rw[qg]
 clear qg
 refine bn (c:=_) Tryz.func43 rfl rfl rfl (by decide) fun w M0 H Z=>?_
 repeat'(first|refine aA ?_|(refine aB ?_ ?_<;>first|exact aD|(refine aE ?_;intro hb))|fail)
 refine pX 6 200 156 3 J J J ?_
 refine fz (fun(k:Nat) (out:List (Nat×Loc))=>k≤ps.length∧RS=jP k (ps.drop k) out∧out.length≤1000 * k)
  (fun k _=>[(0,.v (C1 (cK ps))),(1,.v (C1 (dW ls))),(5,.v (.one (.ptr 5 0))),(6,.v (.one (.own 200))),(16,.v (C1 (cK ps))),(17,.v (C1 (.int .i64 (ps.length:Int)))),(18,.v (C1 (.int .i64 (k:Int))))])
  (fun _ out=>[(200,.arr false 156 3 (out.map qn)),(5,rB)]) (fun k _=>ps.length - k) 0 [] ⟨aF _,OU,by simp⟩
  aH (fun k out hk ih=>?_)
 obtain⟨hk,cZ,RU⟩:=hk
 by_cases bj:k < ps.length
 ·have hx:(ps.map b7.cs)[k]? =some (ps[k]).cs:=by simp[bj]
  have cY:=gf ps[k] (an bj)
  have hlen:=D1 ps[k]
  rw[cX bj,jP]at cZ
  obtain⟨⟨⟨L,e1⟩,e2⟩,hE⟩:∃E,E=kg ps[k]:=⟨_,rfl⟩
  rw[←hE]at cY cZ hlen
  clear hE
  simp only at cY cZ hlen
  have Di:=fun(h0:¬e2=0)=>(show RS=([],(902,(k:Int),e1)) by rw[cZ,if_neg h0])
  have cT:=fun(h0:e2=0)=>ih (k+1) (out++L.map fun l=>(k,l)) ⟨bj,by rw[cZ,if_pos h0],by simp;omega⟩ (by omega)
  clear ih cZ
  repeat'(first|refine aA ?_|(refine aB ?_ ?_<;>first|exact aD|(refine aE ?_;intro hb))|((first|refine bO th J J J J J J J J J k _ J hx ?_|refine aR cY [] J J J J J J J J J J ?_|refine aR (mf 902 (k:Int) e1) [] J J J J J J J J J J ?_);refine ao th J ?_))
  ·have fQ:=Di (by assumption)
   rw[fQ,if_neg (by intro e;injection e with e;cases e)]
   refine aZ th Tryz.func43 (.inr ⟨_,rfl⟩) J J J ?_ rfl
   exact E4 _
  ·have cT:=cT (by assumption)
   clear Di
   refine bE (fun j:Nat=>j≤L.length)
    (fun j=>[(0,.v (C1 (cK ps))),(1,.v (C1 (dW ls))),(5,.v (.one (.ptr 5 0))),(6,.v (.one (.own 200))),(7,.v (C1 (.int .i64 (k:Int)))),(16,.v (C1 (cK ps))),(17,.v (C1 (.int .i64 (ps.length:Int)))),(18,.v (C1 (.int .i64 (k:Int)))),(34,.v (C1 (dW L))),(35,.v (C1 (.int .i64 (L.length:Int)))),(36,.v (C1 (.int .i64 (j:Int))))])
    (fun j=>[(200,.arr false 156 3 ((out++(L.take j).map fun l=>(k,l)).map qn)),(5,rB)]) (fun j=>L.length - j) 0 (aF _)
    (aH (h2:=by exact⟨⟨_,rfl,fE (by simp)⟩,⟨_,rfl,.refl _⟩,trivial⟩)) (fun j hj n9=>?_)
   by_cases fg:j < L.length
   ·have Oz:(L.map Loc.cs)[j]? =some (L[j]).cs:=by simp[fg]
    have ji:=n9 (j+1) fg (by omega)
    rw[xP _ _ fg,bg]at ji
    clear n9 cT
    repeat'(first|refine aA ?_|(refine aB ?_ ?_<;>first|exact aD|(refine aE ?_;intro hb))|(refine bO th J J J J J J J J J j _ J Oz ?_;refine ao th J ?_)|(refine eo th J J J J J J J J J J J J J J J (by constructor<;>simp<;>omega) ?_;refine ao th J ?_)|(refine bH J J J J J J (by omega) ?_;refine ao th J ?_))
    exact aS ji
   ·clear n9
    have Lz:j=L.length:=by omega
    subst Lz
    rw[bq]
    repeat'(first|refine aA ?_|(refine aB ?_ ?_<;>first|exact aD|(refine aE ?_;intro hb))|(refine bH J J J J J J (by omega) ?_;refine ao th J ?_))
    exact aS cT
 ·clear ih
  have gv:k=ps.length:=by omega
  subst gv
  rw[jf (ay _),jP]at cZ
  rw[cZ,if_pos J]
  repeat'(first|refine aA ?_|(refine aB ?_ ?_<;>first|exact aD|(refine aE ?_;intro hb))|fail)
  refine bE (fun k:Nat=>k≤ls.length)
   (fun k=>[(0,.v (C1 (cK ps))),(5,.v (.one (.ptr 5 0))),(6,.v (.one (.own 200))),(48,.v (C1 (dW ls))),(49,.v (C1 (.int .i64 (ls.length:Int)))),(50,.v (C1 (.int .i64 (k:Int))))])
   (fun k=>[(200,.arr false 156 3 ((out++lU ps.length (ls.take k)).map qn)),(5,rB)]) (fun k=>ls.length - k) 0 (aF _)
   (aH (h2:=by exact⟨⟨_,rfl,fE (by simp[lU])⟩,⟨_,rfl,.refl _⟩,trivial⟩)) (fun k hk ih=>?_)
  by_cases bj:k < ls.length
  ·have hx:(ls.map Loc.cs)[k]? =some (ls[k]).cs:=by simp[bj]
   obtain⟨x7,Sg⟩:=hL _ (an bj)
   have cY:=Na ls[k] x7
   rw[show yM ls[k]=ox ls[k]from if_pos Sg]at cY
   have cT:=ih (k+1) bj (by omega)
   have C7:(ls.take k).length=k:=by simp;omega
   rw[al bj,El,C7,←bf,bg]at cT
   have To:(lU ps.length (ls.take k)).length=k:=by rw[yL];exact C7
   clear ih
   repeat'(first|refine aA ?_|(refine aB ?_ ?_<;>first|exact aD|(refine aE ?_;intro hb))|((first|refine bO th J J J J J J J J J k _ J hx ?_|refine aR cY [] J J J J J J J J J J ?_);refine ao th J ?_)|(refine eo th J J J J J J J J J J J J J J J (by constructor<;>simp<;>omega) ?_;refine ao th J ?_)|(refine bH J J J J J J (by first|omega|(simp;omega)) ?_;refine ao th J ?_))
   exact aS (h2:=by exact⟨⟨_,rfl,fE (by simp)⟩,⟨_,rfl,.refl _⟩,trivial⟩) cT
  ·clear ih
   have gv:k=ls.length:=by omega
   subst gv
   rw[bq]
   repeat'(first|(refine dY 200 J J ?_)|refine aA ?_|(refine aB ?_ ?_<;>first|exact aD|(refine aE ?_;intro hb))|fail)
   refine aZ th Tryz.func43 (.inr ⟨_,rfl⟩) J J J ?_ rfl
   exact .refl _
end Go.Sy
