/- Contracts of the reference, bundle Bu4. -/
import Derived.Test.YtdjocfajcbhmgaaGreatDoorBu3
import Derived.Test.YtdjocfajcbhmgaaGreatDoorBu1
import Derived.Test.YtdjocfajcbhmgaaGreatDoorBn1
import Derived.Test.YtdjocfajcbhmgaaGreatDoorBl1
set_option linter.unusedSimpArgs false
set_option linter.unusedVariables false
set_option linter.unusedSectionVars false
namespace Go.Sy
open Go.Proofs
set_option maxRecDepth 100000
attribute [local irreducible] SOps Goes DOps EOps
def Da:Loc:=⟨⟨#[]⟩,[]⟩
def tr(l:Loc):Loc:=if c7 l then bj l else Da
theorem JQ{α β:Type}(f:α→α)(g:α→β)(l:List α)(m:Nat)(hm:m < l.length):
 (((l.take m).map f++l.drop m).map g).set m (g (f l[m]))=((l.take (m+1)).map f++l.drop (m+1)).map g:=by
 rw[←lJ]
 congr 1
 rw[List.set_append_right _ _ (by simp;omega),aD hm,a6,br]
 congr 1
 have:m - ((l.take m).map f).length=0:=by simp;omega
 rw[this,gb hm]
 rfl
theorem KF{α β:Type}(f:α→α)(g:α→β)(l:List α)(m:Nat)(hm:m < l.length):(((l.take m).map f++l.drop m).map g)[m]? =some (g l[m]):=by
 rw[aI,aO (by simp;omega),ca]
 have:m+(m - ((l.take m).map f).length)=m:=by simp;omega
 rw[this,aa hm];rfl
theorem Kp{row:List Int}{x:Int}(h:x∈row):iU (px row) x (.int .i64 0)=.int .i64 (pN row x):=by
 rw[Hr,Nk,if_pos h];rfl
def pd(l:Loc)(x:Int):fe:=⟨(bn l x).kind,(bn l x).peer,ly (a8 l.g) (bn l x).aP⟩
set_option maxHeartbeats 8000000 in
theorem Dg(l:Loc)(hs:iv l):dy Tryz.prog 79 [] [Ag l.cs] (.v (Ag (tr l).cs)) []:=by
 refine bd (c:=_) Tryz.func79 rfl rfl rfl (by decide) fun w M0 H Z=>?_
 repeat'(first|refine bH J ?_|(refine al ?_;refine aj th J ?_)|(refine au mix J J ?_;refine ak th J ?_)|(refine ao mix J J ?_;refine ay th J ?_)|refine SOps.nil ?_|refine DOps.nil ?_|refine EOps.nil ?_ rfl rfl|((first|refine aq J J ?_ ?_|refine av J J J ?_ ?_|refine aU J ?_ ?_)<;>intro hb<;>(try simp only[aF]at hb)<;>first|(exfalso;omega)|refine aj th J ?_|refine ak th J ?_|skip)|refine aT th Tryz.func79 (.inr ⟨_,rfl⟩) J J J ?_ rfl|((first|refine aS (tt l hs) [] J J J J J J J J J J ?_|refine aS (y4 l hs) [] J J J J J J J J J J ?_);refine aj th J ?_))
 ·rw[show tr l=Da by unfold tr;rw[hb];rfl]
  exact .v (.agg (.cons (.refl _) (.cons (.c (.nil 3)) .nil)))
 have hv:=hb
 obtain⟨hg,h0,hu⟩:=mQ hv
 have Te:=(fp hv).2
 have QZ:l.g.length=l.turns.length:=by simp[Loc.g]
 obtain⟨lB,_⟩:=iP hg h0
 have Jx:=lB.len
 have Jy:kC l=a8 l.g:=by unfold kC;rw[if_pos hv]
 have HV:tr l=⟨l.name,(a8 l.g).map (pd l)⟩:=by unfold tr;rw[if_pos hv];rfl
 have H6:∀x∈a8 l.g,∀a∈fC (bn l x).aP,a.next∈a8 l.g:=fun x hx a ha=>pr hg h0 hx (by rw[cg];exact jJ.1 ha)
 obtain⟨row,UH⟩:∃row,row=a8 l.g:=⟨_,rfl⟩
 rw[Jy]
 have SS:∀x,pd l x=⟨(bn l x).kind,(bn l x).peer,ly row (bn l x).aP⟩:=fun x=>by rw[UH];rfl
 rw[←UH]at lB Jx HV H6⊢
 refine bE (fun k:Nat=>k≤row.length)
  (fun k=>[(1,.v (.one (.ptr 1 0))),(2,.v (.one (.ptr 2 0))),(3,.v (C1 (cA row))),(4,.v (.one (.mp 18))),(19,.v (C1 (cA row))),(20,.v (C1 (.int .i64 (row.length:Int)))),(21,.v (C1 (.int .i64 (k:Int))))])
  (fun k=>[(18,.lo (gI ux (px (row.take k)))),(2,.box [.c (.str ⟨#[]⟩),.c .bK]),(1,.box (l.cs.map SC.c))])
  (fun k=>row.length - k) 0 (aM _)
  (fun a w h=>h.sub (by exact⟨⟨_,rfl,.refl _⟩,⟨_,rfl,.refl _⟩,⟨_,rfl,.refl _⟩,⟨_,rfl,.refl _⟩,⟨_,rfl,.refl _⟩,⟨_,rfl,aC (by simp)⟩,⟨_,rfl,aC J⟩,trivial⟩) (by exact⟨⟨_,rfl,.refl _⟩,⟨_,rfl,.refl _⟩,⟨_,rfl,.refl _⟩,trivial⟩) J J J) (fun k hk ih=>?_)
 by_cases bo:k < row.length
 ·have hx:(row.map fun r=>[CT.int .i64 r])[k]? =some [.int .i64 row[k]]:=by simp[bo]
  have na:row[k]∉row.take k:=fun hm=>by
   obtain⟨j,hj,e⟩:=aB.1 hm
   have AI:j < k:=by simp at hj;omega
   rw[List.getElem_take]at e
   have:=(List.getElem_inj lB.nodup).1 e
   omega
  have pB:mx (px (row.take k)) row[k] (.int .i64 (k:Int))=px (row.take (k+1)):=by
   have:=Ko na
   rw[bf,vS hk]at this
   rw[this,aD bo]
  repeat'(first|refine bH J ?_|(refine al ?_;refine aj th J ?_)|(refine au mix J J ?_;refine ak th J ?_)|(refine ao mix J J ?_;refine ay th J ?_)|refine SOps.nil ?_|refine DOps.nil ?_|refine EOps.nil ?_ rfl rfl|((first|refine aq J J ?_ ?_|refine av J J J ?_ ?_|refine aU J ?_ ?_)<;>intro hb<;>(try simp only[aF]at hb)<;>first|(exfalso;omega)|refine aj th J ?_|refine ak th J ?_|skip)|((first|refine ch th J J J J J J J J J k _ J hx ?_|(refine BE th (m:=px (row.take k)) (.inl rfl) J J J J J J J J ?_;rw[pB])|refine bO J J J J J J (by omega) ?_);refine aj th J ?_))
  exact bJ (by exact⟨⟨_,rfl,.refl _⟩,⟨_,rfl,.refl _⟩,⟨_,rfl,.refl _⟩,⟨_,rfl,.refl _⟩,⟨_,rfl,.refl _⟩,⟨_,rfl,.refl _⟩,⟨_,rfl,aC (by omega)⟩,trivial⟩) (by exact⟨⟨_,rfl,.refl _⟩,⟨_,rfl,.refl _⟩,⟨_,rfl,.refl _⟩,trivial⟩) J J J (ih (k+1) bo (by omega))
 ·have gn:k=row.length:=by omega
  subst gn
  rw[bC]
  repeat'(first|refine bH J ?_|(refine al ?_;refine aj th J ?_)|(refine au mix J J ?_;refine ak th J ?_)|(refine ao mix J J ?_;refine ay th J ?_)|refine SOps.nil ?_|refine DOps.nil ?_|refine EOps.nil ?_ rfl rfl|((first|refine aq J J ?_ ?_|refine av J J J ?_ ?_|refine aU J ?_ ?_)<;>intro hb<;>(try simp only[aF]at hb)<;>first|(exfalso;omega)|refine aj th J ?_|refine ak th J ?_|skip))
  refine l9 7 1 200 39 3 J J J J ?_
  refine bE (fun k:Nat=>k≤row.length)
   (fun k=>[(1,.v (.one (.ptr 1 0))),(2,.v (.one (.ptr 2 0))),(4,.v (.one (.mp 18))),(7,.v (.one (.ptr 7 0))),(33,.v (C1 (cA row))),(34,.v (C1 (.int .i64 (row.length:Int)))),(35,.v (C1 (.int .i64 (k:Int))))])
   (fun k=>[(200,.arr false 39 3 (((row.take k).map (pd l)).map fe.cs)),(7,.box [.c (.str l.name),.own 200]),(18,.lo (gI ux (px row))),(2,.box [.c (.str ⟨#[]⟩),.c .bK]),(1,.box (l.cs.map SC.c))])
   (fun k=>row.length - k) 0 (aM _)
   (fun a w h=>h.sub (by exact⟨⟨_,rfl,.refl _⟩,⟨_,rfl,.refl _⟩,⟨_,rfl,.refl _⟩,⟨_,rfl,.refl _⟩,⟨_,rfl,.refl _⟩,⟨_,rfl,aC (by simp)⟩,⟨_,rfl,aC J⟩,trivial⟩) (by exact⟨⟨_,rfl,dd J⟩,⟨_,rfl,.refl _⟩,⟨_,rfl,.refl _⟩,⟨_,rfl,.refl _⟩,⟨_,rfl,.refl _⟩,trivial⟩) J J J) (fun k hk ih=>?_)
  by_cases bo:k < row.length
  ·have hx:(row.map fun r=>[CT.int .i64 r])[k]? =some [.int .i64 row[k]]:=by simp[bo]
   have NL:=lB.range row[k] (az bo)
   rw[QZ]at NL
   have Qh:=vZ NL
   have kI:=r9 hv row[k]
   have JA:=H6 row[k] (az bo)
   repeat'(first|refine bH J ?_|(refine al ?_;refine aj th J ?_)|(refine au mix J J ?_;refine ak th J ?_)|(refine ao mix J J ?_;refine ay th J ?_)|refine SOps.nil ?_|refine DOps.nil ?_|refine EOps.nil ?_ rfl rfl|((first|refine aq J J ?_ ?_|refine av J J J ?_ ?_|refine aU J ?_ ?_)<;>intro hb<;>(try simp only[aF]at hb)<;>first|(exfalso;omega)|refine aj th J ?_|refine ak th J ?_|skip)|((first|refine ch th J J J J J J J J J k _ J hx ?_|refine ch th J J J J J J J J J (row[k]).toNat _ (by omega) Qh ?_|(refine mu (Ew (bn l row[k]).aP kI.1 (by omega)) [91] J J J J J J J J J (fun _=>rfl) (fun vA _=>?_);refine Gz 91 210 46 J J J J J J J ?_));refine aj th J ?_))
   obtain⟨rs,HZ⟩:∃rs,rs=fC (bn l row[k]).aP:=⟨_,rfl⟩
   rw[←HZ]at JA
   have hrsl:rs.length≤6:=by rw[HZ,qc];exact kI.2
   refine bE (fun m:Nat=>m≤rs.length)
    (fun m=>[(1,.v (.one (.ptr 1 0))),(2,.v (.one (.ptr 2 0))),(4,.v (.one (.mp 18))),(7,.v (.one (.ptr 7 0))),(10,.v (.one (.ptr 10 0))),(33,.v (C1 (cA row))),(34,.v (C1 (.int .i64 (row.length:Int)))),(35,.v (C1 (.int .i64 (k:Int)))),(50,.v (C1 (.int .i64 (rs.length:Int)))),(51,.v (C1 (.int .i64 (m:Int))))])
    (fun m=>[(210,.arr false 34 4 (((rs.take m).map (rm (pN row))++rs.drop m).map bM.cs)),(10,.box [.c (.int .i64 (bn l row[k]).kind),.c (.str (bn l row[k]).peer),.own 210]),(200,.arr false 39 3 (((row.take k).map (pd l)).map fe.cs)),(7,.box [.c (.str l.name),.own 200]),(18,.lo (gI ux (px row))),(2,.box [.c (.str ⟨#[]⟩),.c .bK]),(1,.box (l.cs.map SC.c))])
    (fun m=>rs.length - m) 0 (aM _)
    (fun a w h=>h.sub (by exact⟨⟨_,rfl,.refl _⟩,⟨_,rfl,.refl _⟩,⟨_,rfl,.refl _⟩,⟨_,rfl,.refl _⟩,⟨_,rfl,.refl _⟩,⟨_,rfl,.refl _⟩,⟨_,rfl,.refl _⟩,⟨_,rfl,.refl _⟩,⟨_,rfl,aC (by rw[HZ];simp)⟩,⟨_,rfl,aC J⟩,trivial⟩)
      (by exact⟨⟨_,rfl,dd (by rw[HZ];rfl)⟩,⟨_,rfl,.refl _⟩,⟨_,rfl,.refl _⟩,⟨_,rfl,.refl _⟩,⟨_,rfl,.refl _⟩,⟨_,rfl,.refl _⟩,⟨_,rfl,.refl _⟩,trivial⟩) J J J) (fun m hm oZ=>?_)
   by_cases Mj:m < rs.length
   ·have UD:=KF (rm (pN row)) bM.cs rs m Mj
    have HY:=JQ (rm (pN row)) bM.cs rs m Mj
    have hlen:(((rs.take m).map (rm (pN row))++rs.drop m).map bM.cs).length=rs.length:=by simp;omega
    have uD:=Kp (JA rs[m] (az Mj))
    repeat'(first|(refine Lk mix J J J J J J ?_;refine ak th J ?_)|refine bH J ?_|(refine al ?_;refine aj th J ?_)|(refine au mix J J ?_;refine ak th J ?_)|(refine ao mix J J ?_;refine ay th J ?_)|refine SOps.nil ?_|refine DOps.nil ?_|refine EOps.nil ?_ rfl rfl|((first|refine aq J J ?_ ?_|refine av J J J ?_ ?_|refine aU J ?_ ?_)<;>intro hb<;>(try simp only[aF]at hb)<;>first|(exfalso;omega)|refine aj th J ?_|refine ak th J ?_|skip)|((first|(refine IV th J J J J J J J J J J m J (by rw[hlen];exact Mj) ?_)|refine D5 th _ J J J J UD J J J J J ?_|(refine Lv th (m:=px row) J J J J J J J J J J J J ?_;rw[uD]));refine ak th J ?_)|((first|refine zg th _ J J J J UD J J J J J J J ?_|refine bO J J J J J J (by omega) ?_);refine aj th J ?_))
    have cS:=oZ (m+1) Mj (by omega)
    exact bJ (by exact⟨⟨_,rfl,.refl _⟩,⟨_,rfl,.refl _⟩,⟨_,rfl,.refl _⟩,⟨_,rfl,.refl _⟩,⟨_,rfl,.refl _⟩,⟨_,rfl,.refl _⟩,⟨_,rfl,.refl _⟩,⟨_,rfl,.refl _⟩,⟨_,rfl,.refl _⟩,⟨_,rfl,aC (by omega)⟩,trivial⟩)
     (by exact⟨⟨_,rfl,dd HY⟩,⟨_,rfl,.refl _⟩,⟨_,rfl,.refl _⟩,⟨_,rfl,.refl _⟩,⟨_,rfl,.refl _⟩,⟨_,rfl,.refl _⟩,⟨_,rfl,.refl _⟩,trivial⟩) J J J cS
   ·have VV:m=rs.length:=by omega
    subst VV
    rw[bC,List.drop_length,cV]
    have KY:ly row (bn l row[k]).aP=rs.map (rm (pN row)):=by rw[gV,HZ]
    repeat'(first|(refine dZ 210 J J ?_)|refine bH J ?_|(refine al ?_;refine aj th J ?_)|(refine au mix J J ?_;refine ak th J ?_)|(refine ao mix J J ?_;refine ay th J ?_)|refine SOps.nil ?_|refine DOps.nil ?_|refine EOps.nil ?_ rfl rfl|((first|refine aq J J ?_ ?_|refine av J J J ?_ ?_|refine aU J ?_ ?_)<;>intro hb<;>(try simp only[aF]at hb)<;>first|(exfalso;omega)|refine aj th J ?_|refine ak th J ?_|skip)|(refine pj 7 1 J ?_;refine er th J J J J J J J J J J J J J J J (by constructor<;>simp<;>omega) ?_;refine aj th J ?_)|(refine bO J J J J J J (by omega) ?_;refine aj th J ?_))
    have cS:=ih (k+1) bo (by omega)
    have Qk:((row.take (k+1)).map (pd l)).map fe.cs=((row.take k).map (pd l)).map fe.cs++[(pd l row[k]).cs]:=by
     rw[aD bo,a6,a6];rfl
    rw[Qk,SS,KY]at cS
    exact bJ (by exact⟨⟨_,rfl,.refl _⟩,⟨_,rfl,.refl _⟩,⟨_,rfl,.refl _⟩,⟨_,rfl,.refl _⟩,⟨_,rfl,.refl _⟩,⟨_,rfl,.refl _⟩,⟨_,rfl,aC (by omega)⟩,trivial⟩)
     (by exact⟨⟨_,rfl,dd J⟩,⟨_,rfl,.refl _⟩,⟨_,rfl,.refl _⟩,⟨_,rfl,.refl _⟩,⟨_,rfl,.refl _⟩,trivial⟩) J J J cS
  ·have gn:k=row.length:=by omega
   subst gn
   rw[bC]
   repeat'(first|refine bH J ?_|(refine al ?_;refine aj th J ?_)|(refine au mix J J ?_;refine ak th J ?_)|(refine ao mix J J ?_;refine ay th J ?_)|refine SOps.nil ?_|refine DOps.nil ?_|refine EOps.nil ?_ rfl rfl|((first|refine aq J J ?_ ?_|refine av J J J ?_ ?_|refine aU J ?_ ?_)<;>intro hb<;>(try simp only[aF]at hb)<;>first|(exfalso;omega)|refine aj th J ?_|refine ak th J ?_|skip))
   refine dZ 200 J J ?_
   refine aT th Tryz.func79 (.inr ⟨_,rfl⟩) J J J ?_ rfl
   rw[HV]
   exact .refl _
end Go.Sy
namespace Go.Sy
open Go.Proofs
set_option maxRecDepth 100000
attribute [local irreducible] SOps Goes DOps EOps
end Go.Sy
namespace Go.Sy
open Go.Proofs
set_option maxRecDepth 100000
attribute [local irreducible] SOps Goes DOps EOps
end Go.Sy
