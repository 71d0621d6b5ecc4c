/- Contracts: book.fault, formed, twice. -/
import Derived.Test.YtdjocfajcbhmgaaGreatDoorZ4
import Derived.Test.YtdjocfajcbhmgaaGreatDoorZ16
set_option linter.unusedSimpArgs false
set_option linter.unusedVariables false
set_option linter.unusedSectionVars false
namespace Go.Sy
open Go.Proofs
set_option maxRecDepth 100000
attribute [local irreducible] SOps Goes DOps EOps FOps GOps
abbrev cJ(l:List dr):CT:=.slice false 3 (l.map dr.cs)
abbrev vO(f:qX):List CT:=[.int .i64 f.1,.int .i64 f.2.1,.int .i64 f.2.2]
abbrev qD(f:qX):ST:=.v (Ag (vO f))
abbrev pV:MO:=.box [.c (.int .i64 0),.c (.int .i64 0),.c (.int .i64 0)]
theorem vb{α β:Type}(a:List β)(f:α→β){l:List α}{k:Nat}(h:k < l.length):a++(l.take (k+1)).map f=(a++(l.take k).map f)++[f l[k]]:=by
 rw[aD h,a6,br];rfl
theorem lu(e i k:Int):dy Tryz.prog 88 [] [C1 (.int .i64 e),C1 (.int .i64 i),C1 (.int .i64 k)] (qD (e,i,k)) []:=by
 refine bd (c:=_) Tryz.func88 rfl rfl rfl (by decide) fun w M0 H Z=>?_
 repeat'(first|refine bH J ?_|(refine al ?_;refine aj th J ?_)|(refine au mix J J ?_;refine ak th J ?_)|(refine ao mix J J ?_;refine ay th J ?_)|refine SOps.nil ?_|refine DOps.nil ?_|refine EOps.nil ?_ rfl rfl|((first|refine aq J J ?_ ?_|refine av J J J ?_ ?_|refine aU J ?_ ?_)<;>intro hb<;>(try simp only[aF]at hb)<;>first|(exfalso;omega)|refine aj th J ?_|refine ak th J ?_|skip)|refine aT th Tryz.func88 (.inr ⟨_,rfl⟩) J J J ?_ rfl)
 all_goals exact .refl _
set_option maxHeartbeats 8000000 in
theorem IG(ps:List dr)(ls:List Loc)(hB:∀p∈ps,yI p)(hL:∀l∈ls,iv l):dy Tryz.prog 39 [] [C1 (cJ ps),C1 (dx ls)] (qD (jP ps ls)) []:=by
 by_cases h1:6 < ps.length∨12 < ls.length
 ·rw[show jP ps ls=(900,-1,-1) by unfold jP;rw[if_pos h1]]
  refine bd (c:=_) Tryz.func39 rfl rfl rfl (by decide) fun w M0 H Z=>?_
  repeat'(first|refine bH J ?_|(refine al ?_;refine aj th J ?_)|(refine au mix J J ?_;refine ak th J ?_)|(refine ao mix J J ?_;refine ay th J ?_)|refine SOps.nil ?_|refine DOps.nil ?_|refine EOps.nil ?_ rfl rfl|((first|refine aq J J ?_ ?_|refine av J J J ?_ ?_|refine aU J ?_ ?_)<;>intro hb<;>(try simp only[aF]at hb)<;>first|(exfalso;omega)|refine aj th J ?_|refine ak th J ?_|skip)|(refine aS (lu 900 (-1) (-1)) [] J J J J J J J J J J ?_;refine aj th J ?_))
  all_goals first
   |(exfalso;simp only[aw]at *;omega)
   |(refine aT th Tryz.func39 (.inr ⟨_,rfl⟩) J J J ?_ rfl
     exact .refl _)
 ·obtain⟨F,hF⟩:∃F,F=jP ps ls:=⟨_,rfl⟩
  rw[←hF]
  unfold jP at hF
  rw[if_neg h1]at hF
  refine bd (c:=_) Tryz.func39 rfl rfl rfl (by decide) fun w M0 H Z=>?_
  refine gl 0 J fun mZ=>?_
  refine gl 1 J fun mT=>?_
  simp only[aw]at mZ mT
  repeat'(first|refine bH J ?_|(refine al ?_;refine aj th J ?_)|(refine au mix J J ?_;refine ak th J ?_)|(refine ao mix J J ?_;refine ay th J ?_)|refine SOps.nil ?_|refine DOps.nil ?_|refine EOps.nil ?_ rfl rfl|((first|refine aq J J ?_ ?_|refine av J J J ?_ ?_|refine aU J ?_ ?_)<;>intro hb<;>(try simp only[aF]at hb)<;>first|(exfalso;omega)|refine aj th J ?_|refine ak th J ?_|skip))
  all_goals first|(exfalso;simp only[aw]at *;omega)|skip
  refine bE (fun k:Nat=>k≤ps.length∧∀i (h:i < k) (h':i < ps.length),fK ps[i]=true)
   (fun k=>[(0,.v (C1 (cJ ps))),(1,.v (C1 (dx ls))),(4,.v (.one (.ptr 4 0))),(18,.v (C1 (cJ ps))),(19,.v (C1 (.int .i64 (ps.length:Int)))),(20,.v (C1 (.int .i64 (k:Int))))])
   (fun _=>[(4,pV)]) (fun k=>ps.length - k) 0 ⟨aM _,fun i h=>by omega⟩
   (fun a w h=>h.sub (by exact⟨⟨_,rfl,.refl _⟩,⟨_,rfl,.refl _⟩,⟨_,rfl,.refl _⟩,⟨_,rfl,.refl _⟩,⟨_,rfl,aC (by simp)⟩,⟨_,rfl,aC J⟩,trivial⟩) (by exact⟨⟨_,rfl,.refl _⟩,trivial⟩) J J J) (fun k hk ih=>?_)
  obtain⟨hk,b7⟩:=hk
  by_cases bo:k < ps.length
  ·have hx:(ps.map dr.cs)[k]? =some (ps[k]).cs:=by simp[bo]
   have dB:=OG ps[k] (hB _ (az bo))
   have cS:=fun hp=>ih (k+1) ⟨bo,hp⟩ (by omega)
   clear ih
   have gf:=fun(hb:fK ps[k]=false)=>hF.trans (by
    rw[gX (p:=fun p=>!fK p) bo (fun i hi=>by simp[b7 i hi (by omega)]) (by simp[hb]),if_pos (by omega)])
   have fj:=fun(hb:fK ps[k]=true)=>(show ∀i (h:i < k+1) (h':i < ps.length),fK ps[i]=true from fun i h h'=>by
    by_cases kJ:i=k
    ·subst kJ;exact hb
    ·exact b7 i (by omega) h')
   clear hF b7
   repeat'(first|refine bH J ?_|(refine al ?_;refine aj th J ?_)|(refine au mix J J ?_;refine ak th J ?_)|(refine ao mix J J ?_;refine ay th J ?_)|refine SOps.nil ?_|refine DOps.nil ?_|refine EOps.nil ?_ rfl rfl|((first|refine aq J J ?_ ?_|refine av J J J ?_ ?_|refine aU J ?_ ?_)<;>intro hb<;>(try simp only[aF]at hb)<;>first|(exfalso;omega)|refine aj th J ?_|refine ak th J ?_|skip)|((first|refine ch th J J J J J J J J J k _ J hx ?_|refine aS dB [] J J J J J J J J J J ?_|refine aS (lu 900 (k:Int) (-1)) [] J J J J J J J J J J ?_|refine bO J J J J J J (by omega) ?_);refine aj th J ?_))
   ·rw[gf hb]
    refine aT th Tryz.func39 (.inr ⟨_,rfl⟩) J J J ?_ rfl
    exact .refl _
   ·exact bJ (by exact⟨⟨_,rfl,.refl _⟩,⟨_,rfl,.refl _⟩,⟨_,rfl,.refl _⟩,⟨_,rfl,.refl _⟩,⟨_,rfl,.refl _⟩,⟨_,rfl,aC (by omega)⟩,trivial⟩) (by exact⟨⟨_,rfl,.refl _⟩,trivial⟩) J J J (cS (fj hb))
  ·clear ih
   have gn:k=ps.length:=by omega
   subst gn
   rw[dv (p:=fun p=>!fK p) (fun i hi=>by simp[b7 i hi hi]),if_neg (by omega)]at hF
   clear b7
   repeat'(first|refine bH J ?_|(refine al ?_;refine aj th J ?_)|(refine au mix J J ?_;refine ak th J ?_)|(refine ao mix J J ?_;refine ay th J ?_)|refine SOps.nil ?_|refine DOps.nil ?_|refine EOps.nil ?_ rfl rfl|((first|refine aq J J ?_ ?_|refine av J J J ?_ ?_|refine aU J ?_ ?_)<;>intro hb<;>(try simp only[aF]at hb)<;>first|(exfalso;omega)|refine aj th J ?_|refine ak th J ?_|skip))
   refine bE (fun k:Nat=>k≤ls.length∧∀i (h:i < k) (h':i < ls.length),(c7 ls[i]&&bZ ls[i].name)=true)
    (fun k=>[(0,.v (C1 (cJ ps))),(4,.v (.one (.ptr 4 0))),(31,.v (C1 (dx ls))),(32,.v (C1 (.int .i64 (ls.length:Int)))),(33,.v (C1 (.int .i64 (k:Int))))])
    (fun _=>[(4,pV)]) (fun k=>ls.length - k) 0 ⟨aM _,fun i h=>by omega⟩
    (fun a w h=>h.sub (by exact⟨⟨_,rfl,.refl _⟩,⟨_,rfl,.refl _⟩,⟨_,rfl,.refl _⟩,⟨_,rfl,aC (by simp)⟩,⟨_,rfl,aC J⟩,trivial⟩) (by exact⟨⟨_,rfl,.refl _⟩,trivial⟩) J J J) (fun k hk ih=>?_)
   obtain⟨hk,b7⟩:=hk
   by_cases bo:k < ls.length
   ·have hx:(ls.map Loc.cs)[k]? =some (ls[k]).cs:=by simp[bo]
    have dB:=tt ls[k] (hL _ (az bo))
    have QH:=nB ls[k].name
    have cS:=fun hp=>ih (k+1) ⟨bo,hp⟩ (by omega)
    clear ih
    have gf:=fun(hb:(c7 ls[k]&&bZ ls[k].name)=false)=>hF.trans (by
     rw[gX (p:=fun l:Loc=>!(c7 l&&bZ l.name)) bo (fun i hi=>by show(!(c7 ls[i]&&bZ ls[i].name))=false;rw[b7 i hi (by omega)];rfl) (by show(!(c7 ls[k]&&bZ ls[k].name))=true;rw[hb];rfl),if_pos (by omega)])
    have fj:=fun(hb:(c7 ls[k]&&bZ ls[k].name)=true)=>(show ∀i (h:i < k+1) (h':i < ls.length),(c7 ls[i]&&bZ ls[i].name)=true from fun i h h'=>by
     by_cases kJ:i=k
     ·subst kJ;exact hb
     ·exact b7 i (by omega) h')
    clear hF b7
    cases FX:c7 ls[k]
    all_goals
     cases Pr:bZ ls[k].name
     all_goals
      rw[FX]at dB
      rw[Pr]at QH
      rw[FX,Pr]at gf fj
      repeat'(first|(exfalso;revert hb;simp;done)|refine bH J ?_|(refine al ?_;refine aj th J ?_)|(refine au mix J J ?_;refine ak th J ?_)|(refine ao mix J J ?_;refine ay th J ?_)|refine SOps.nil ?_|refine DOps.nil ?_|refine EOps.nil ?_ rfl rfl|((first|refine aq J J ?_ ?_|refine av J J J ?_ ?_|refine aU J ?_ ?_)<;>intro hb<;>(try simp only[aF]at hb)<;>first|(exfalso;omega)|refine aj th J ?_|refine ak th J ?_|skip)|((first|refine ch th J J J J J J J J J k _ J hx ?_|refine aS dB [] J J J J J J J J J J ?_|refine aS QH [] J J J J J J J J J J ?_);refine aj th J ?_)|(refine bO J J J J J J (by first|omega|(simp only[aw];omega)) ?_;refine aj th J ?_)|(refine aS (lu 900 (((ps.map dr.cs).length:Nat)+(k:Int)) (-1)) [] J J J J J J J J J J ?_;refine aj th J ?_))
      all_goals first
       |(rw[gf J]
         refine aT th Tryz.func39 (.inr ⟨_,rfl⟩) J J J ?_ rfl
         simp only[aw]
         exact .refl _)
       |exact bJ (by exact⟨⟨_,rfl,.refl _⟩,⟨_,rfl,.refl _⟩,⟨_,rfl,.refl _⟩,⟨_,rfl,.refl _⟩,⟨_,rfl,aC (by omega)⟩,trivial⟩) (by exact⟨⟨_,rfl,.refl _⟩,trivial⟩) J J J (cS (fj J))
   ·clear ih
    have gn:k=ls.length:=by omega
    subst gn
    rw[dv (p:=fun l:Loc=>!(c7 l&&bZ l.name)) (fun i hi=>by show(!(c7 ls[i]&&bZ ls[i].name))=false;rw[b7 i hi hi];rfl),if_neg (by omega)]at hF
    rw[hF]
    repeat'(first|refine bH J ?_|(refine al ?_;refine aj th J ?_)|(refine au mix J J ?_;refine ak th J ?_)|(refine ao mix J J ?_;refine ay th J ?_)|refine SOps.nil ?_|refine DOps.nil ?_|refine EOps.nil ?_ rfl rfl|((first|refine aq J J ?_ ?_|refine av J J J ?_ ?_|refine aU J ?_ ?_)<;>intro hb<;>(try simp only[aF]at hb)<;>first|(exfalso;omega)|refine aj th J ?_|refine ak th J ?_|skip)|refine aT th Tryz.func39 (.inr ⟨_,rfl⟩) J J J ?_ rfl)
    all_goals exact .refl _
set_option maxHeartbeats 8000000 in
theorem JI(ps:List dr)(ls:List Loc)(hp:ps.length≤6)(hl:ls.length≤12):dy Tryz.prog 41 [] [C1 (cJ ps),C1 (dx ls)] (qD (jr (qN ps ls))) []:=by
 obtain⟨all,fP⟩:∃all,all=qN ps ls:=⟨_,rfl⟩
 rw[←fP]
 refine bd (c:=_) Tryz.func41 rfl rfl rfl (by decide) fun w M0 H Z=>?_
 repeat'(first|refine bH J ?_|(refine al ?_;refine aj th J ?_)|(refine au mix J J ?_;refine ak th J ?_)|(refine ao mix J J ?_;refine ay th J ?_)|refine SOps.nil ?_|refine DOps.nil ?_|refine EOps.nil ?_ rfl rfl|((first|refine aq J J ?_ ?_|refine av J J J ?_ ?_|refine aU J ?_ ?_)<;>intro hb<;>(try simp only[aF]at hb)<;>first|(exfalso;omega)|refine aj th J ?_|refine ak th J ?_|skip))
 refine qy 5 200 9 1 J J J ?_
 refine bE (fun k:Nat=>k≤ps.length)
  (fun k=>[(1,.v (C1 (dx ls))),(4,.v (.one (.ptr 4 0))),(5,.v (.one (.own 200))),(12,.v (C1 (cJ ps))),(13,.v (C1 (.int .i64 (ps.length:Int)))),(14,.v (C1 (.int .i64 (k:Int))))])
  (fun k=>[(200,.arr false 9 1 (((ps.take k).map dr.name).map fun s=>[CT.str s])),(4,pV)]) (fun k=>ps.length - k) 0 (aM _)
  (fun a w h=>h.sub (by exact⟨⟨_,rfl,.refl _⟩,⟨_,rfl,.refl _⟩,⟨_,rfl,.refl _⟩,⟨_,rfl,.refl _⟩,⟨_,rfl,aC (by simp)⟩,⟨_,rfl,aC J⟩,trivial⟩) (by exact⟨⟨_,rfl,dd J⟩,⟨_,rfl,.refl _⟩,trivial⟩) J J J) (fun k hk ih=>?_)
 by_cases bo:k < ps.length
 ·have hx:(ps.map dr.cs)[k]? =some (ps[k]).cs:=by simp[bo]
  have cS:=ih (k+1) bo (by omega)
  rw[aD bo,a6,a6]at cS
  clear ih
  repeat'(first|refine bH J ?_|(refine al ?_;refine aj th J ?_)|(refine au mix J J ?_;refine ak th J ?_)|(refine ao mix J J ?_;refine ay th J ?_)|refine SOps.nil ?_|refine DOps.nil ?_|refine EOps.nil ?_ rfl rfl|((first|refine aq J J ?_ ?_|refine av J J J ?_ ?_|refine aU J ?_ ?_)<;>intro hb<;>(try simp only[aF]at hb)<;>first|(exfalso;omega)|refine aj th J ?_|refine ak th J ?_|skip)|(refine ch th J J J J J J J J J k _ J hx ?_;refine aj th J ?_)|(refine er th J J J J J J J J J J J J J J J (by constructor<;>simp<;>omega) ?_;refine aj th J ?_)|(refine bO J J J J J J (by omega) ?_;refine aj th J ?_))
  exact bJ (by exact⟨⟨_,rfl,.refl _⟩,⟨_,rfl,.refl _⟩,⟨_,rfl,.refl _⟩,⟨_,rfl,.refl _⟩,⟨_,rfl,.refl _⟩,⟨_,rfl,aC (by omega)⟩,trivial⟩) (by exact⟨⟨_,rfl,dd J⟩,⟨_,rfl,.refl _⟩,trivial⟩) J J J cS
 ·clear ih
  have gn:k=ps.length:=by omega
  subst gn
  rw[bC]
  repeat'(first|refine bH J ?_|(refine al ?_;refine aj th J ?_)|(refine au mix J J ?_;refine ak th J ?_)|(refine ao mix J J ?_;refine ay th J ?_)|refine SOps.nil ?_|refine DOps.nil ?_|refine EOps.nil ?_ rfl rfl|((first|refine aq J J ?_ ?_|refine av J J J ?_ ?_|refine aU J ?_ ?_)<;>intro hb<;>(try simp only[aF]at hb)<;>first|(exfalso;omega)|refine aj th J ?_|refine ak th J ?_|skip))
  refine bE (fun k:Nat=>k≤ls.length)
   (fun k=>[(4,.v (.one (.ptr 4 0))),(5,.v (.one (.own 200))),(24,.v (C1 (dx ls))),(25,.v (C1 (.int .i64 (ls.length:Int)))),(26,.v (C1 (.int .i64 (k:Int))))])
   (fun k=>[(200,.arr false 9 1 ((ps.map dr.name++(ls.take k).map Loc.name).map fun s=>[CT.str s])),(4,pV)]) (fun k=>ls.length - k) 0 (aM _)
   (fun a w h=>h.sub (by exact⟨⟨_,rfl,.refl _⟩,⟨_,rfl,.refl _⟩,⟨_,rfl,.refl _⟩,⟨_,rfl,aC (by simp)⟩,⟨_,rfl,aC J⟩,trivial⟩) (by exact⟨⟨_,rfl,dd (by simp)⟩,⟨_,rfl,.refl _⟩,trivial⟩) J J J) (fun k hk ih=>?_)
  by_cases bo:k < ls.length
  ·have hx:(ls.map Loc.cs)[k]? =some (ls[k]).cs:=by simp[bo]
   have cS:=ih (k+1) bo (by omega)
   rw[vb _ _ bo,a6]at cS
   clear ih
   repeat'(first|refine bH J ?_|(refine al ?_;refine aj th J ?_)|(refine au mix J J ?_;refine ak th J ?_)|(refine ao mix J J ?_;refine ay th J ?_)|refine SOps.nil ?_|refine DOps.nil ?_|refine EOps.nil ?_ rfl rfl|((first|refine aq J J ?_ ?_|refine av J J J ?_ ?_|refine aU J ?_ ?_)<;>intro hb<;>(try simp only[aF]at hb)<;>first|(exfalso;omega)|refine aj th J ?_|refine ak th J ?_|skip)|(refine ch th J J J J J J J J J k _ J hx ?_;refine aj th J ?_)|(refine er th J J J J J J J J J J J J J J J (by constructor<;>simp<;>omega) ?_;refine aj th J ?_)|(refine bO J J J J J J (by omega) ?_;refine aj th J ?_))
   exact bJ (by exact⟨⟨_,rfl,.refl _⟩,⟨_,rfl,.refl _⟩,⟨_,rfl,.refl _⟩,⟨_,rfl,.refl _⟩,⟨_,rfl,aC (by omega)⟩,trivial⟩) (by exact⟨⟨_,rfl,dd J⟩,⟨_,rfl,.refl _⟩,trivial⟩) J J J cS
  ·clear ih
   have gn:k=ls.length:=by omega
   subst gn
   rw[bC,show ps.map dr.name++ls.map Loc.name=all from fP.symm]
   have Fm:all.length≤18:=by rw[fP];simp[qN];omega
   clear fP
   obtain⟨F,hF⟩:∃F,F=jr all:=⟨_,rfl⟩
   rw[←hF]
   unfold jr Lq at hF
   repeat'(first|(refine dZ 200 J J ?_)|refine bH J ?_|(refine al ?_;refine aj th J ?_)|(refine au mix J J ?_;refine ak th J ?_)|(refine ao mix J J ?_;refine ay th J ?_)|refine SOps.nil ?_|refine DOps.nil ?_|refine EOps.nil ?_ rfl rfl|((first|refine aq J J ?_ ?_|refine av J J J ?_ ?_|refine aU J ?_ ?_)<;>intro hb<;>(try simp only[aF]at hb)<;>first|(exfalso;omega)|refine aj th J ?_|refine ak th J ?_|skip))
   refine bE (fun k:Nat=>k≤all.length∧∀i (h:i < k),decide (dw all (all.getD i ⟨#[]⟩) < (i:Int))=false)
    (fun k=>[(4,.v (.one (.ptr 4 0))),(5,.v (C1 (bh all))),(36,.v (C1 (bh all))),(37,.v (C1 (.int .i64 (all.length:Int)))),(38,.v (C1 (.int .i64 (k:Int))))])
    (fun _=>[(4,pV)]) (fun k=>all.length - k) 0 ⟨aM _,fun i h=>by omega⟩
    (fun a w h=>h.sub (by exact⟨⟨_,rfl,.refl _⟩,⟨_,rfl,.refl _⟩,⟨_,rfl,.refl _⟩,⟨_,rfl,aC (by simp)⟩,⟨_,rfl,aC J⟩,trivial⟩) (by exact⟨⟨_,rfl,.refl _⟩,trivial⟩) J J J) (fun k hk ih=>?_)
   obtain⟨hk,b7⟩:=hk
   by_cases bo:k < all.length
   ·have hx:(all.map fun s=>[CT.str s])[k]? =some [.str all[k]]:=by simp[bo]
    have dB:=s4 all all[k]
    have JD:all.getD k ⟨#[]⟩=all[k]:=by rw[aJ,aa bo];rfl
    have cS:=fun hp=>ih (k+1) ⟨bo,hp⟩ (by omega)
    clear ih
    have gf:=fun(hb:dw all all[k] < (k:Int))=>hF.trans (by
     rw[gX (p:=fun i:Nat=>decide (dw all (all.getD i ⟨#[]⟩) < (i:Int))) (l:=List.range all.length) (k:=k) (by simpa using bo) (fun i hi=>by simpa using b7 i hi) (by simp only[pS];rw[JD];exact decide_eq_true hb),if_pos (by omega)])
    have fj:=fun(hb:¬dw all all[k] < (k:Int))=>(show ∀i (h:i < k+1),decide (dw all (all.getD i ⟨#[]⟩) < (i:Int))=false from fun i h=>by
     by_cases kJ:i=k
     ·subst kJ;rw[JD];simpa using hb
     ·exact b7 i (by omega))
    clear hF b7
    repeat'(first|refine bH J ?_|(refine al ?_;refine aj th J ?_)|(refine au mix J J ?_;refine ak th J ?_)|(refine ao mix J J ?_;refine ay th J ?_)|refine SOps.nil ?_|refine DOps.nil ?_|refine EOps.nil ?_ rfl rfl|((first|refine aq J J ?_ ?_|refine av J J J ?_ ?_|refine aU J ?_ ?_)<;>intro hb<;>(try simp only[aF]at hb)<;>first|(exfalso;omega)|refine aj th J ?_|refine ak th J ?_|skip)|((first|refine ch th J J J J J J J J J k _ J hx ?_|refine aS dB [] J J J J J J J J J J ?_|refine aS (lu 901 (k:Int) (-1)) [] J J J J J J J J J J ?_|refine bO J J J J J J (by omega) ?_);refine aj th J ?_))
    ·rw[gf hb]
     refine aT th Tryz.func41 (.inr ⟨_,rfl⟩) J J J ?_ rfl
     exact .refl _
    ·exact bJ (by exact⟨⟨_,rfl,.refl _⟩,⟨_,rfl,.refl _⟩,⟨_,rfl,.refl _⟩,⟨_,rfl,.refl _⟩,⟨_,rfl,aC (by omega)⟩,trivial⟩) (by exact⟨⟨_,rfl,.refl _⟩,trivial⟩) J J J (cS (fj hb))
   ·clear ih
    have gn:k=all.length:=by omega
    subst gn
    rw[dv (fun i hi=>by simp only[pS];exact b7 i (by simpa using hi)),if_neg (by omega)]at hF
    rw[hF]
    repeat'(first|refine bH J ?_|(refine al ?_;refine aj th J ?_)|(refine au mix J J ?_;refine ak th J ?_)|(refine ao mix J J ?_;refine ay th J ?_)|refine SOps.nil ?_|refine DOps.nil ?_|refine EOps.nil ?_ rfl rfl|((first|refine aq J J ?_ ?_|refine av J J J ?_ ?_|refine aU J ?_ ?_)<;>intro hb<;>(try simp only[aF]at hb)<;>first|(exfalso;omega)|refine aj th J ?_|refine ak th J ?_|skip)|refine aT th Tryz.func41 (.inr ⟨_,rfl⟩) J J J ?_ rfl)
    all_goals exact .refl _
end Go.Sy
