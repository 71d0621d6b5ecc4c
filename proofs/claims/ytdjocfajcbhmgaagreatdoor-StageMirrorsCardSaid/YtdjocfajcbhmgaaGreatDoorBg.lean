/- Contracts: book.named. -/
import Derived.Test.YtdjocfajcbhmgaaGreatDoorBf
set_option linter.unusedSimpArgs false
set_option linter.unusedVariables false
set_option linter.unusedSectionVars false
namespace Go.Sy
open Go.Proofs
set_option maxRecDepth 100000
attribute [local irreducible] SOps Goes DOps EOps FOps GOps
theorem wU{K:ByteArray→Bool}{g:List (List bM)}{k:Nat}(hk:k < g.length)(ha:∀i (h:i < k),jM K (g[i]'(by omega))=false)(hp:jM K g[k]=true):fZ K g=(k:Int):=gX hk ha hp
theorem uk{K:ByteArray→Bool}{g:List (List bM)}(ha:∀i (h:i < g.length),jM K g[i]=false):fZ K g=-1:=dv ha
theorem getD_at{α:Type}{l:List α}{k:Nat}(h:k < l.length)(d:α):l.getD ((k:Int)).toNat d=l[k]:=by
 rw[cZ,aJ,aa h];rfl
set_option maxHeartbeats 16000000 in
theorem Kx(ps:List dr)(ls:List Loc)(hB:n9 ps)(hl12:ls.length≤12):dy Tryz.prog 45 [] [C1 (cJ ps),C1 (dx ls)] (qD (jz (fN ps ls) ps ls)) []:=by
 have Mm:=LF ps ls hB
 have hp1000:=hB.1
 generalize fN ps ls=K at *
 obtain⟨F,hF⟩:∃F,F=jz K ps ls:=⟨_,rfl⟩
 rw[←hF]
 unfold jz at hF
 refine bd (c:=_) Tryz.func45 rfl rfl rfl (by decide) fun w M0 H Z=>?_
 refine gl 0 J fun mZ=>?_
 refine gl 1 J fun mT=>?_
 simp only[aw]at mZ mT
 repeat'(first|refine bH J ?_|(refine al ?_;refine aj th J ?_)|(refine au mix J J ?_;refine ak th J ?_)|(refine ao mix J J ?_;refine ay th J ?_)|refine SOps.nil ?_|refine DOps.nil ?_|refine EOps.nil ?_ rfl rfl|((first|refine aq J J ?_ ?_|refine av J J J ?_ ?_|refine aU J ?_ ?_)<;>intro hb<;>(try simp only[aF]at hb)<;>first|(exfalso;omega)|refine aj th J ?_|refine ak th J ?_|skip))
 refine bE (fun k:Nat=>k≤ps.length∧∀i (h:i < k) (h':i < ps.length),fZ K ps[i].g=-1)
  (fun k=>[(0,.v (C1 (cJ ps))),(1,.v (C1 (dx ls))),(4,.v (.one (.ptr 4 0))),(13,.v (C1 (cJ ps))),(14,.v (C1 (.int .i64 (ps.length:Int)))),(15,.v (C1 (.int .i64 (k:Int))))])
  (fun _=>[(4,pV)]) (fun k=>ps.length - k) 0 ⟨aM _,fun i h=>by omega⟩
  (fun a w h=>h.sub (by exact⟨⟨_,rfl,.refl _⟩,⟨_,rfl,.refl _⟩,⟨_,rfl,.refl _⟩,⟨_,rfl,.refl _⟩,⟨_,rfl,aC (by simp)⟩,⟨_,rfl,aC J⟩,trivial⟩) (by exact⟨⟨_,rfl,.refl _⟩,trivial⟩) J J J) (fun k hk ih=>?_)
 obtain⟨hk,b7⟩:=hk
 by_cases bo:k < ps.length
 ·have hx:(ps.map dr.cs)[k]? =some (ps[k]).cs:=by simp[bo]
  have cS:=fun hp=>ih (k+1) ⟨bo,hp⟩ (by omega)
  clear ih
  have gf:=fun(j:Nat) (hb:fZ K ps[k].g=(j:Int))=>hF.trans (by
   rw[gX (p:=fun p:dr=>decide (0≤fZ K p.g)) bo (fun i hi=>by simp[b7 i hi (by omega)]) (by simp[hb]),if_pos (by omega),getD_at bo,hb])
  have fj:=fun(hb:fZ K ps[k].g=-1)=>(show ∀i (h:i < k+1) (h':i < ps.length),fZ K ps[i].g=-1 from fun i h h'=>by
   by_cases kJ:i=k
   ·subst kJ;exact hb
   ·exact b7 i (by omega) h')
  have cS:=fun hb=>cS (fj hb)
  clear hF b7 fj
  generalize ps[k]=p at *
  repeat'(first|refine bH J ?_|(refine al ?_;refine aj th J ?_)|(refine au mix J J ?_;refine ak th J ?_)|(refine ao mix J J ?_;refine ay th J ?_)|refine SOps.nil ?_|refine DOps.nil ?_|refine EOps.nil ?_ rfl rfl|((first|refine aq J J ?_ ?_|refine av J J J ?_ ?_|refine aU J ?_ ?_)<;>intro hb<;>(try simp only[aF]at hb)<;>first|(exfalso;omega)|refine aj th J ?_|refine ak th J ?_|skip)|(refine ch th J J J J J J J J J k _ J hx ?_;refine aj th J ?_))
  refine gl 21 J fun N0=>?_
  simp only[aw]at N0
  refine bE (fun j:Nat=>j≤p.points.length∧∀i (h:i < j) (h':i < p.points.length),jM K p.points[i].aP=false)
   (fun j=>[(0,.v (C1 (cJ ps))),(1,.v (C1 (dx ls))),(4,.v (.one (.ptr 4 0))),(13,.v (C1 (cJ ps))),(14,.v (C1 (.int .i64 (ps.length:Int)))),(15,.v (C1 (.int .i64 (k:Int)))),(5,.v (C1 (.int .i64 (k:Int)))),(21,.v (C1 (s3 p.points))),(22,.v (C1 (.int .i64 (p.points.length:Int)))),(23,.v (C1 (.int .i64 (j:Int))))])
   (fun _=>[(4,pV)]) (fun j=>p.points.length - j) 0 ⟨aM _,fun i h=>by omega⟩
   (fun a w h=>h.sub (by exact⟨⟨_,rfl,.refl _⟩,⟨_,rfl,.refl _⟩,⟨_,rfl,.refl _⟩,⟨_,rfl,.refl _⟩,⟨_,rfl,.refl _⟩,⟨_,rfl,.refl _⟩,⟨_,rfl,.refl _⟩,⟨_,rfl,.refl _⟩,⟨_,rfl,aC (by simp)⟩,⟨_,rfl,aC J⟩,trivial⟩) (by exact⟨⟨_,rfl,.refl _⟩,trivial⟩) J J J) (fun j hj oZ=>?_)
  obtain⟨hj,b7⟩:=hj
  by_cases eC:j < p.points.length
  ·have SN:(p.points.map pL.cs)[j]? =some (p.points[j]).cs:=by simp[eC]
   have dB:=Mm p.points[j].aP
   have l3:=fun hp=>oZ (j+1) ⟨eC,hp⟩ (by omega)
   clear oZ cS
   have rM:j < p.g.length:=by simpa[dr.g]using eC
   have AM:=fun(hb:jM K p.points[j].aP=true)=>gf j (wU rM (fun i hi=>by simpa[dr.g]using b7 i hi (by omega)) (by simpa[dr.g]using hb))
   have fj:=fun(hb:jM K p.points[j].aP=false)=>(show ∀i (h:i < j+1) (h':i < p.points.length),jM K p.points[i].aP=false from fun i h h'=>by
    by_cases kJ:i=j
    ·subst kJ;exact hb
    ·exact b7 i (by omega) h')
   have l3:=fun hb=>l3 (fj hb)
   clear gf b7 fj
   cases qU:jM K p.points[j].aP
   all_goals
    rw[qU]at dB
    repeat'(first|(exfalso;revert hb;simp;done)|refine bH J ?_|(refine al ?_;refine aj th J ?_)|(refine au mix J J ?_;refine ak th J ?_)|(refine ao mix J J ?_;refine ay th J ?_)|refine SOps.nil ?_|refine DOps.nil ?_|refine EOps.nil ?_ rfl rfl|((first|refine aq J J ?_ ?_|refine av J J J ?_ ?_|refine aU J ?_ ?_)<;>intro hb<;>(try simp only[aF]at hb)<;>first|(exfalso;omega)|refine aj th J ?_|refine ak th J ?_|skip)|((first|refine ch th J J J J J J J J J j _ J SN ?_|refine aS dB [] J J J J J J J J J J ?_|refine aS (lu 903 (k:Int) (j:Int)) [] J J J J J J J J J J ?_|refine bO J J J J J J (by omega) ?_);refine aj th J ?_))
    first
    |(rw[AM qU]
      refine aT th Tryz.func45 (.inr ⟨_,rfl⟩) J J J ?_ rfl
      exact .refl _)
    |exact bJ (by exact⟨⟨_,rfl,.refl _⟩,⟨_,rfl,.refl _⟩,⟨_,rfl,.refl _⟩,⟨_,rfl,.refl _⟩,⟨_,rfl,.refl _⟩,⟨_,rfl,.refl _⟩,⟨_,rfl,.refl _⟩,⟨_,rfl,.refl _⟩,⟨_,rfl,.refl _⟩,⟨_,rfl,aC (by omega)⟩,trivial⟩) (by exact⟨⟨_,rfl,.refl _⟩,trivial⟩) J J J (l3 qU)
  ·clear oZ gf
   have AH:j=p.points.length:=by omega
   subst AH
   have cS:=cS (uk fun i hi=>by
    have FZ:i < p.points.length:=by simpa[dr.g]using hi
    simpa[dr.g]using b7 i FZ FZ)
   clear b7
   repeat'(first|refine bH J ?_|(refine al ?_;refine aj th J ?_)|(refine au mix J J ?_;refine ak th J ?_)|(refine ao mix J J ?_;refine ay th J ?_)|refine SOps.nil ?_|refine DOps.nil ?_|refine EOps.nil ?_ rfl rfl|((first|refine aq J J ?_ ?_|refine av J J J ?_ ?_|refine aU J ?_ ?_)<;>intro hb<;>(try simp only[aF]at hb)<;>first|(exfalso;omega)|refine aj th J ?_|refine ak th J ?_|skip)|(refine bO J J J J J J (by omega) ?_;refine aj th J ?_))
   exact bJ (by exact⟨⟨_,rfl,.refl _⟩,⟨_,rfl,.refl _⟩,⟨_,rfl,.refl _⟩,⟨_,rfl,.refl _⟩,⟨_,rfl,.refl _⟩,⟨_,rfl,aC (by omega)⟩,trivial⟩) (by exact⟨⟨_,rfl,.refl _⟩,trivial⟩) J J J cS
 ·clear ih
  have gn:k=ps.length:=by omega
  subst gn
  rw[dv (p:=fun p:dr=>decide (0≤fZ K p.g)) (fun i hi=>by simp[b7 i hi hi]),if_neg (by omega)]at hF
  clear b7
  repeat'(first|refine bH J ?_|(refine al ?_;refine aj th J ?_)|(refine au mix J J ?_;refine ak th J ?_)|(refine ao mix J J ?_;refine ay th J ?_)|refine SOps.nil ?_|refine DOps.nil ?_|refine EOps.nil ?_ rfl rfl|((first|refine aq J J ?_ ?_|refine av J J J ?_ ?_|refine aU J ?_ ?_)<;>intro hb<;>(try simp only[aF]at hb)<;>first|(exfalso;omega)|refine aj th J ?_|refine ak th J ?_|skip))
  refine bE (fun k:Nat=>k≤ls.length∧∀i (h:i < k) (h':i < ls.length),fZ K ls[i].g=-1)
   (fun k=>[(0,.v (C1 (cJ ps))),(1,.v (C1 (dx ls))),(4,.v (.one (.ptr 4 0))),(38,.v (C1 (dx ls))),(39,.v (C1 (.int .i64 (ls.length:Int)))),(40,.v (C1 (.int .i64 (k:Int))))])
   (fun _=>[(4,pV)]) (fun k=>ls.length - k) 0 ⟨aM _,fun i h=>by omega⟩
   (fun a w h=>h.sub (by exact⟨⟨_,rfl,.refl _⟩,⟨_,rfl,.refl _⟩,⟨_,rfl,.refl _⟩,⟨_,rfl,.refl _⟩,⟨_,rfl,aC (by simp)⟩,⟨_,rfl,aC J⟩,trivial⟩) (by exact⟨⟨_,rfl,.refl _⟩,trivial⟩) J J J) (fun k hk ih=>?_)
  obtain⟨hk,b7⟩:=hk
  by_cases bo:k < ls.length
  ·have hx:(ls.map Loc.cs)[k]? =some (ls[k]).cs:=by simp[bo]
   have cS:=fun hp=>ih (k+1) ⟨bo,hp⟩ (by omega)
   clear ih
   have gf:=fun(j:Nat) (hb:fZ K ls[k].g=(j:Int))=>hF.trans (by
    rw[gX (p:=fun l:Loc=>decide (0≤fZ K l.g)) bo (fun i hi=>by simp[b7 i hi (by omega)]) (by simp[hb]),if_pos (by omega),getD_at bo,hb])
   have fj:=fun(hb:fZ K ls[k].g=-1)=>(show ∀i (h:i < k+1) (h':i < ls.length),fZ K ls[i].g=-1 from fun i h h'=>by
    by_cases kJ:i=k
    ·subst kJ;exact hb
    ·exact b7 i (by omega) h')
   have cS:=fun hb=>cS (fj hb)
   clear hF b7 fj
   generalize ls[k]=p at *
   repeat'(first|refine bH J ?_|(refine al ?_;refine aj th J ?_)|(refine au mix J J ?_;refine ak th J ?_)|(refine ao mix J J ?_;refine ay th J ?_)|refine SOps.nil ?_|refine DOps.nil ?_|refine EOps.nil ?_ rfl rfl|((first|refine aq J J ?_ ?_|refine av J J J ?_ ?_|refine aU J ?_ ?_)<;>intro hb<;>(try simp only[aF]at hb)<;>first|(exfalso;omega)|refine aj th J ?_|refine ak th J ?_|skip)|(refine ch th J J J J J J J J J k _ J hx ?_;refine aj th J ?_))
   refine gl 46 J fun N0=>?_
   simp only[aw]at N0
   refine bE (fun j:Nat=>j≤p.turns.length∧∀i (h:i < j) (h':i < p.turns.length),jM K p.turns[i].aP=false)
    (fun j=>[(0,.v (C1 (cJ ps))),(1,.v (C1 (dx ls))),(4,.v (.one (.ptr 4 0))),(38,.v (C1 (dx ls))),(39,.v (C1 (.int .i64 (ls.length:Int)))),(40,.v (C1 (.int .i64 (k:Int)))),(9,.v (C1 (.int .i64 (k:Int)))),(46,.v (C1 (gi p.turns))),(47,.v (C1 (.int .i64 (p.turns.length:Int)))),(48,.v (C1 (.int .i64 (j:Int))))])
    (fun _=>[(4,pV)]) (fun j=>p.turns.length - j) 0 ⟨aM _,fun i h=>by omega⟩
    (fun a w h=>h.sub (by exact⟨⟨_,rfl,.refl _⟩,⟨_,rfl,.refl _⟩,⟨_,rfl,.refl _⟩,⟨_,rfl,.refl _⟩,⟨_,rfl,.refl _⟩,⟨_,rfl,.refl _⟩,⟨_,rfl,.refl _⟩,⟨_,rfl,.refl _⟩,⟨_,rfl,aC (by simp)⟩,⟨_,rfl,aC J⟩,trivial⟩) (by exact⟨⟨_,rfl,.refl _⟩,trivial⟩) J J J) (fun j hj oZ=>?_)
   obtain⟨hj,b7⟩:=hj
   by_cases eC:j < p.turns.length
   ·have SN:(p.turns.map fe.cs)[j]? =some (p.turns[j]).cs:=by simp[eC]
    have dB:=Mm p.turns[j].aP
    have l3:=fun hp=>oZ (j+1) ⟨eC,hp⟩ (by omega)
    clear oZ cS
    have rM:j < p.g.length:=by simpa[Loc.g]using eC
    have AM:=fun(hb:jM K p.turns[j].aP=true)=>gf j (wU rM (fun i hi=>by simpa[Loc.g]using b7 i hi (by omega)) (by simpa[Loc.g]using hb))
    have fj:=fun(hb:jM K p.turns[j].aP=false)=>(show ∀i (h:i < j+1) (h':i < p.turns.length),jM K p.turns[i].aP=false from fun i h h'=>by
     by_cases kJ:i=j
     ·subst kJ;exact hb
     ·exact b7 i (by omega) h')
    have l3:=fun hb=>l3 (fj hb)
    clear gf b7 fj
    cases qU:jM K p.turns[j].aP
    all_goals
     rw[qU]at dB
     repeat'(first|(exfalso;revert hb;simp;done)|refine bH J ?_|(refine al ?_;refine aj th J ?_)|(refine au mix J J ?_;refine ak th J ?_)|(refine ao mix J J ?_;refine ay th J ?_)|refine SOps.nil ?_|refine DOps.nil ?_|refine EOps.nil ?_ rfl rfl|((first|refine aq J J ?_ ?_|refine av J J J ?_ ?_|refine aU J ?_ ?_)<;>intro hb<;>(try simp only[aF]at hb)<;>first|(exfalso;omega)|refine aj th J ?_|refine ak th J ?_|skip)|((first|refine ch th J J J J J J J J J j _ J SN ?_|refine aS dB [] J J J J J J J J J J ?_);refine aj th J ?_)|(refine bO J J J J J J (by first|omega|(simp only[aw];omega)) ?_;refine aj th J ?_)|(refine aS (lu 903 (((ps.map dr.cs).length:Nat)+(k:Int)) (j:Int)) [] J J J J J J J J J J ?_;refine aj th J ?_))
     first
     |(rw[AM qU]
       refine aT th Tryz.func45 (.inr ⟨_,rfl⟩) J J J ?_ rfl
       simp only[aw]
       exact .refl _)
     |exact bJ (by exact⟨⟨_,rfl,.refl _⟩,⟨_,rfl,.refl _⟩,⟨_,rfl,.refl _⟩,⟨_,rfl,.refl _⟩,⟨_,rfl,.refl _⟩,⟨_,rfl,.refl _⟩,⟨_,rfl,.refl _⟩,⟨_,rfl,.refl _⟩,⟨_,rfl,.refl _⟩,⟨_,rfl,aC (by omega)⟩,trivial⟩) (by exact⟨⟨_,rfl,.refl _⟩,trivial⟩) J J J (l3 qU)
   ·clear oZ gf
    have AH:j=p.turns.length:=by omega
    subst AH
    have cS:=cS (uk fun i hi=>by
     have FZ:i < p.turns.length:=by simpa[Loc.g]using hi
     simpa[Loc.g]using b7 i FZ FZ)
    clear b7
    repeat'(first|refine bH J ?_|(refine al ?_;refine aj th J ?_)|(refine au mix J J ?_;refine ak th J ?_)|(refine ao mix J J ?_;refine ay th J ?_)|refine SOps.nil ?_|refine DOps.nil ?_|refine EOps.nil ?_ rfl rfl|((first|refine aq J J ?_ ?_|refine av J J J ?_ ?_|refine aU J ?_ ?_)<;>intro hb<;>(try simp only[aF]at hb)<;>first|(exfalso;omega)|refine aj th J ?_|refine ak th J ?_|skip)|(refine bO J J J J J J (by omega) ?_;refine aj th J ?_))
    exact bJ (by exact⟨⟨_,rfl,.refl _⟩,⟨_,rfl,.refl _⟩,⟨_,rfl,.refl _⟩,⟨_,rfl,.refl _⟩,⟨_,rfl,.refl _⟩,⟨_,rfl,aC (by omega)⟩,trivial⟩) (by exact⟨⟨_,rfl,.refl _⟩,trivial⟩) J J J cS
  ·clear ih
   have gn:k=ls.length:=by omega
   subst gn
   rw[dv (p:=fun l:Loc=>decide (0≤fZ K l.g)) (fun i hi=>by simp[b7 i hi hi]),if_neg (by omega)]at hF
   rw[hF]
   repeat'(first|refine bH J ?_|(refine al ?_;refine aj th J ?_)|(refine au mix J J ?_;refine ak th J ?_)|(refine ao mix J J ?_;refine ay th J ?_)|refine SOps.nil ?_|refine DOps.nil ?_|refine EOps.nil ?_ rfl rfl|((first|refine aq J J ?_ ?_|refine av J J J ?_ ?_|refine aU J ?_ ?_)<;>intro hb<;>(try simp only[aF]at hb)<;>first|(exfalso;omega)|refine aj th J ?_|refine ak th J ?_|skip)|refine aT th Tryz.func45 (.inr ⟨_,rfl⟩) J J J ?_ rfl)
   all_goals exact .refl _
end Go.Sy
