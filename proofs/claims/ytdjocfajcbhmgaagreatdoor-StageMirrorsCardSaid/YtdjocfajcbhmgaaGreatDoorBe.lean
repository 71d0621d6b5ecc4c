/- Contracts: book.projected. -/
import Derived.Test.YtdjocfajcbhmgaaGreatDoorBd
import Derived.Test.YtdjocfajcbhmgaaGreatDoorBu4
set_option linter.unusedSimpArgs false
set_option linter.unusedVariables false
set_option linter.unusedSectionVars false
namespace Go.Sy
open Go.Proofs
set_option maxRecDepth 100000
attribute [local irreducible] SOps Goes DOps EOps FOps GOps
abbrev oY(q:Nat×Loc):List CT:=[.int .i64 (q.1:Int),.str q.2.name,gi q.2.turns]
abbrev il(x:List (Nat×Loc)):CT:=.slice false 3 (x.map oY)
abbrev G0(r:List (Nat×Loc)×qX):ST:=.gE [C1 (il r.1),Ag (vO r.2)]
theorem Ck(f:qX):Eh (.gE [C1 .bK,Ag (vO f)]) (G0 ([],f)):=.gE (.cons (.one (.c (.nil 3))) (.cons (.refl _) .nil))
theorem Bx(ls:List Loc)(l:Loc)(i:Nat):lb i (ls++[l])=lb i ls++[(i+ls.length,bj l)]:=by
 induction ls generalizing i with
 |nil=>rfl
 |cons m ls ih=>rw[cX,lb,ih,lb,dT,cX,show i+1+ls.length=i+(ls.length+1) by omega]
theorem v8:∀(ls:List Loc) (i:Nat),(lb i ls).length=ls.length
 |[],_=>rfl
 |l::ls,i=>by rw[lb,dT,v8 ls,dT]
theorem wD:∀(ps:List dr) (i:Nat) (out:List (Nat×Loc)),(∀p∈ps,(k9 p).1.1.length≤1000)→(jk i ps out).1.length≤out.length+1000 * ps.length
 |[],_,_,_=>by simp[jk]
 |p::ps,i,out,h=>by
  rw[jk]
  split
  ·have:=wD ps (i+1) (out++(k9 p).1.1.map fun l=>(i,l)) fun q hq=>h q (ab _ hq)
   have h1:=h p ah
   simp only[aL,aw,dT]at this⊢
   omega
  ·simp
theorem Bh{p:dr}:∀(l:List ByteArray) (i:Nat) (out:List Loc),(yG p i l out).1.1.length≤out.length+l.length
 |[],_,out=>by simp[yG]
 |r::l,i,out=>by
  rw[yG]
  split
  ·have:=Bh (p:=p) l (i+1) (out++[(gP p r).1])
   simp only[aL,dT,oO]at this⊢
   omega
  ·simp
theorem Bl(p:dr):(k9 p).1.1.length≤1000:=by
 unfold k9
 cases hv:fK p with
 |false=>simp
 |true=>
  rw[if_pos J]
  have:=Bh (p:=p) p.roles 0 []
  have:=sZ hv
  simp only[oO]at *
  omega
set_option maxHeartbeats 16000000 in
theorem xS(ps:List dr)(ls:List Loc)(hp:ps.length≤6)(hl:ls.length≤12)(fP:∀p∈ps,dy Tryz.prog 91 [] [Ag p.cs] (Ry (k9 p)) [])(hL:∀l∈ls,iv l∧c7 l=true):dy Tryz.prog 43 [] [C1 (cJ ps),C1 (dx ls)] (G0 (eJ ps ls)) []:=by
 obtain⟨RS,TZ⟩:∃RS,RS=jk 0 ps []:=⟨_,rfl⟩
 have hout:RS.1.length≤6000:=by
  rw[TZ]
  have:=wD ps 0 [] fun p _=>Bl p
  simp only[oO]at this
  omega
 have oS:eJ ps ls=if RS.2=kE then(RS.1++lb ps.length ls,kE)else([],RS.2):=by rw[TZ];rfl
 rw[oS]
 clear oS
 refine bd (c:=_) Tryz.func43 rfl rfl rfl (by decide) fun w M0 H Z=>?_
 repeat'(first|refine bH J ?_|(refine al ?_;refine aj th J ?_)|(refine au mix J J ?_;refine ak th J ?_)|(refine ao mix J J ?_;refine ay th J ?_)|refine SOps.nil ?_|refine DOps.nil ?_|refine EOps.nil ?_ rfl rfl|((first|refine aq J J ?_ ?_|refine av J J J ?_ ?_|refine aU J ?_ ?_)<;>intro hb<;>(try simp only[aF]at hb)<;>first|(exfalso;omega)|refine aj th J ?_|refine ak th J ?_|skip))
 refine qy 6 200 156 3 J J J ?_
 refine qx (fun(k:Nat) (out:List (Nat×Loc))=>k≤ps.length∧RS=jk k (ps.drop k) out∧out.length≤1000 * k)
  (fun k _=>[(0,.v (C1 (cJ ps))),(1,.v (C1 (dx ls))),(5,.v (.one (.ptr 5 0))),(6,.v (.one (.own 200))),(16,.v (C1 (cJ ps))),(17,.v (C1 (.int .i64 (ps.length:Int)))),(18,.v (C1 (.int .i64 (k:Int))))])
  (fun _ out=>[(200,.arr false 156 3 (out.map oY)),(5,pV)]) (fun k _=>ps.length - k) 0 [] ⟨aM _,TZ,by simp⟩
  (fun a w h=>h.sub (by exact⟨⟨_,rfl,.refl _⟩,⟨_,rfl,.refl _⟩,⟨_,rfl,.refl _⟩,⟨_,rfl,.refl _⟩,⟨_,rfl,.refl _⟩,⟨_,rfl,aC (by simp)⟩,⟨_,rfl,aC J⟩,trivial⟩) (by exact⟨⟨_,rfl,dd J⟩,⟨_,rfl,.refl _⟩,trivial⟩) J J J) (fun k out hk ih=>?_)
 obtain⟨hk,eu,hol⟩:=hk
 by_cases bo:k < ps.length
 ·have hx:(ps.map dr.cs)[k]? =some (ps[k]).cs:=by simp[bo]
  have dB:=fP ps[k] (az bo)
  have hlen:=Bl ps[k]
  rw[gb bo,jk]at eu
  obtain⟨⟨⟨L,e1⟩,e2⟩,hE⟩:∃E,E=k9 ps[k]:=⟨_,rfl⟩
  rw[←hE]at dB eu hlen
  clear hE
  simp only at dB eu hlen
  have Q0:=fun(h0:¬e2=0)=>(show RS=([],(902,(k:Int),e1)) by rw[eu,if_neg h0])
  have cS:=fun(h0:e2=0)=>ih (k+1) (out++L.map fun l=>(k,l)) ⟨bo,by rw[eu,if_pos h0],by simp;omega⟩ (by omega)
  clear ih eu
  repeat'(first|refine bH J ?_|(refine al ?_;refine aj th J ?_)|(refine au mix J J ?_;refine ak th J ?_)|(refine ao mix J J ?_;refine ay th J ?_)|refine SOps.nil ?_|refine DOps.nil ?_|refine EOps.nil ?_ rfl rfl|((first|refine aq J J ?_ ?_|refine av J J J ?_ ?_|refine aU J ?_ ?_)<;>intro hb<;>(try simp only[aF]at hb)<;>first|(exfalso;omega)|refine aj th J ?_|refine ak th J ?_|skip)|((first|refine ch th J J J J J J J J J k _ J hx ?_|refine aS dB [] J J J J J J J J J J ?_|refine aS (lu 902 (k:Int) e1) [] J J J J J J J J J J ?_);refine aj th J ?_))
  ·have gf:=Q0 (by assumption)
   rw[gf,if_neg (by intro e;injection e with e;cases e)]
   refine aT th Tryz.func43 (.inr ⟨_,rfl⟩) J J J ?_ rfl
   exact Ck _
  ·have cS:=cS (by assumption)
   clear Q0
   refine bE (fun j:Nat=>j≤L.length)
    (fun j=>[(0,.v (C1 (cJ ps))),(1,.v (C1 (dx ls))),(5,.v (.one (.ptr 5 0))),(6,.v (.one (.own 200))),(7,.v (C1 (.int .i64 (k:Int)))),(16,.v (C1 (cJ ps))),(17,.v (C1 (.int .i64 (ps.length:Int)))),(18,.v (C1 (.int .i64 (k:Int)))),(34,.v (C1 (dx L))),(35,.v (C1 (.int .i64 (L.length:Int)))),(36,.v (C1 (.int .i64 (j:Int))))])
    (fun j=>[(200,.arr false 156 3 ((out++(L.take j).map fun l=>(k,l)).map oY)),(5,pV)]) (fun j=>L.length - j) 0 (aM _)
    (fun a w h=>h.sub (by exact⟨⟨_,rfl,.refl _⟩,⟨_,rfl,.refl _⟩,⟨_,rfl,.refl _⟩,⟨_,rfl,.refl _⟩,⟨_,rfl,.refl _⟩,⟨_,rfl,.refl _⟩,⟨_,rfl,.refl _⟩,⟨_,rfl,.refl _⟩,⟨_,rfl,.refl _⟩,⟨_,rfl,aC (by simp)⟩,⟨_,rfl,aC J⟩,trivial⟩) (by exact⟨⟨_,rfl,dd (by simp)⟩,⟨_,rfl,.refl _⟩,trivial⟩) J J J) (fun j hj oZ=>?_)
   by_cases eC:j < L.length
   ·have P7:(L.map Loc.cs)[j]? =some (L[j]).cs:=by simp[eC]
    have l3:=oZ (j+1) eC (by omega)
    rw[vb _ _ eC,a6]at l3
    clear oZ cS
    repeat'(first|refine bH J ?_|(refine al ?_;refine aj th J ?_)|(refine au mix J J ?_;refine ak th J ?_)|(refine ao mix J J ?_;refine ay th J ?_)|refine SOps.nil ?_|refine DOps.nil ?_|refine EOps.nil ?_ rfl rfl|((first|refine aq J J ?_ ?_|refine av J J J ?_ ?_|refine aU J ?_ ?_)<;>intro hb<;>(try simp only[aF]at hb)<;>first|(exfalso;omega)|refine aj th J ?_|refine ak th J ?_|skip)|(refine ch th J J J J J J J J J j _ J P7 ?_;refine aj th J ?_)|(refine er th J J J J J J J J J J J J J J J (by constructor<;>simp<;>omega) ?_;refine aj th J ?_)|(refine bO J J J J J J (by omega) ?_;refine aj th J ?_))
    exact bJ (by exact⟨⟨_,rfl,.refl _⟩,⟨_,rfl,.refl _⟩,⟨_,rfl,.refl _⟩,⟨_,rfl,.refl _⟩,⟨_,rfl,.refl _⟩,⟨_,rfl,.refl _⟩,⟨_,rfl,.refl _⟩,⟨_,rfl,.refl _⟩,⟨_,rfl,.refl _⟩,⟨_,rfl,.refl _⟩,⟨_,rfl,aC (by omega)⟩,trivial⟩) (by exact⟨⟨_,rfl,dd J⟩,⟨_,rfl,.refl _⟩,trivial⟩) J J J l3
   ·clear oZ
    have AH:j=L.length:=by omega
    subst AH
    rw[bC]
    repeat'(first|refine bH J ?_|(refine al ?_;refine aj th J ?_)|(refine au mix J J ?_;refine ak th J ?_)|(refine ao mix J J ?_;refine ay th J ?_)|refine SOps.nil ?_|refine DOps.nil ?_|refine EOps.nil ?_ rfl rfl|((first|refine aq J J ?_ ?_|refine av J J J ?_ ?_|refine aU J ?_ ?_)<;>intro hb<;>(try simp only[aF]at hb)<;>first|(exfalso;omega)|refine aj th J ?_|refine ak th J ?_|skip)|(refine bO J J J J J J (by omega) ?_;refine aj th J ?_))
    exact bJ (by exact⟨⟨_,rfl,.refl _⟩,⟨_,rfl,.refl _⟩,⟨_,rfl,.refl _⟩,⟨_,rfl,.refl _⟩,⟨_,rfl,.refl _⟩,⟨_,rfl,.refl _⟩,⟨_,rfl,aC (by omega)⟩,trivial⟩) (by exact⟨⟨_,rfl,dd J⟩,⟨_,rfl,.refl _⟩,trivial⟩) J J J cS
 ·clear ih
  have gn:k=ps.length:=by omega
  subst gn
  rw[vm (aA _),jk]at eu
  rw[eu,if_pos J]
  repeat'(first|refine bH J ?_|(refine al ?_;refine aj th J ?_)|(refine au mix J J ?_;refine ak th J ?_)|(refine ao mix J J ?_;refine ay th J ?_)|refine SOps.nil ?_|refine DOps.nil ?_|refine EOps.nil ?_ rfl rfl|((first|refine aq J J ?_ ?_|refine av J J J ?_ ?_|refine aU J ?_ ?_)<;>intro hb<;>(try simp only[aF]at hb)<;>first|(exfalso;omega)|refine aj th J ?_|refine ak th J ?_|skip))
  refine bE (fun k:Nat=>k≤ls.length)
   (fun k=>[(0,.v (C1 (cJ ps))),(5,.v (.one (.ptr 5 0))),(6,.v (.one (.own 200))),(48,.v (C1 (dx ls))),(49,.v (C1 (.int .i64 (ls.length:Int)))),(50,.v (C1 (.int .i64 (k:Int))))])
   (fun k=>[(200,.arr false 156 3 ((out++lb ps.length (ls.take k)).map oY)),(5,pV)]) (fun k=>ls.length - k) 0 (aM _)
   (fun a w h=>h.sub (by exact⟨⟨_,rfl,.refl _⟩,⟨_,rfl,.refl _⟩,⟨_,rfl,.refl _⟩,⟨_,rfl,.refl _⟩,⟨_,rfl,aC (by simp)⟩,⟨_,rfl,aC J⟩,trivial⟩) (by exact⟨⟨_,rfl,dd (by simp[lb])⟩,⟨_,rfl,.refl _⟩,trivial⟩) J J J) (fun k hk ih=>?_)
  by_cases bo:k < ls.length
  ·have hx:(ls.map Loc.cs)[k]? =some (ls[k]).cs:=by simp[bo]
   obtain⟨yS,TU⟩:=hL _ (az bo)
   have dB:=Dg ls[k] yS
   rw[show tr ls[k]=bj ls[k]from if_pos TU]at dB
   have cS:=ih (k+1) bo (by omega)
   have Bq:(ls.take k).length=k:=by simp;omega
   rw[aD bo,Bx,Bq,←br,a6]at cS
   have Mf:(lb ps.length (ls.take k)).length=k:=by rw[v8];exact Bq
   clear ih
   repeat'(first|refine bH J ?_|(refine al ?_;refine aj th J ?_)|(refine au mix J J ?_;refine ak th J ?_)|(refine ao mix J J ?_;refine ay th J ?_)|refine SOps.nil ?_|refine DOps.nil ?_|refine EOps.nil ?_ rfl rfl|((first|refine aq J J ?_ ?_|refine av J J J ?_ ?_|refine aU J ?_ ?_)<;>intro hb<;>(try simp only[aF]at hb)<;>first|(exfalso;omega)|refine aj th J ?_|refine ak th J ?_|skip)|((first|refine ch th J J J J J J J J J k _ J hx ?_|refine aS dB [] J J J J J J J J J J ?_);refine aj th J ?_)|(refine er th J J J J J J J J J J J J J J J (by constructor<;>simp<;>omega) ?_;refine aj th J ?_)|(refine bO J J J J J J (by first|omega|(simp;omega)) ?_;refine aj th J ?_))
   exact bJ (by exact⟨⟨_,rfl,.refl _⟩,⟨_,rfl,.refl _⟩,⟨_,rfl,.refl _⟩,⟨_,rfl,.refl _⟩,⟨_,rfl,.refl _⟩,⟨_,rfl,aC (by omega)⟩,trivial⟩) (by exact⟨⟨_,rfl,dd (by simp)⟩,⟨_,rfl,.refl _⟩,trivial⟩) J J J cS
  ·clear ih
   have gn:k=ls.length:=by omega
   subst gn
   rw[bC]
   repeat'(first|(refine dZ 200 J J ?_)|refine bH J ?_|(refine al ?_;refine aj th J ?_)|(refine au mix J J ?_;refine ak th J ?_)|(refine ao mix J J ?_;refine ay th J ?_)|refine SOps.nil ?_|refine DOps.nil ?_|refine EOps.nil ?_ rfl rfl|((first|refine aq J J ?_ ?_|refine av J J J ?_ ?_|refine aU J ?_ ?_)<;>intro hb<;>(try simp only[aF]at hb)<;>first|(exfalso;omega)|refine aj th J ?_|refine ak th J ?_|skip))
   refine aT th Tryz.func43 (.inr ⟨_,rfl⟩) J J J ?_ rfl
   exact .refl _
end Go.Sy
