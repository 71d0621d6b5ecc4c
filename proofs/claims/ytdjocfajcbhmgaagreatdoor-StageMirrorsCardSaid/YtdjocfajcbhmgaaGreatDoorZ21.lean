/- Contracts: book.bound. -/
import Derived.Test.YtdjocfajcbhmgaaGreatDoorBf
import Derived.Test.YtdjocfajcbhmgaaGreatDoorZ5
import Derived.Test.YtdjocfajcbhmgaaGreatDoorBv1
import Derived.Test.YtdjocfajcbhmgaaGreatDoorZ16
set_option linter.unusedSimpArgs false
set_option linter.unusedVariables false
set_option linter.unusedSectionVars false
namespace Go.Sy
open Go.Proofs Go.RowKit
set_option maxRecDepth 100000
attribute [local irreducible] SOps Goes DOps EOps FOps GOps
theorem FH(L:List Loc)(l:Loc):yA (L++[l])=vv l.name (fI L:Int) (yA L):=by
 unfold yA
 rw[fh,cx,lK]
 show vv l.name (L.foldl tx (0,[])).1 _=_
 rw[Ba]
abbrev Ru(M:ve)(x:MO):MM:=[(19,.lo (gI Ep (u5 M))),(3,x),(2,.box [.c .bK,.c .bK,.c .bK])]
set_option maxHeartbeats 32000000 in
theorem LD(x:List (Nat×Loc))(hl:x.length≤100)(hs:fI (gC x)≤400)(hv:∀l∈gC x,c7 l=true):dy Tryz.prog 48 [] [C1 (il x)] (.v (Ag (cM (gC x)).cs)) []:=by
 obtain⟨L,hL⟩:∃L,L=gC x:=⟨_,rfl⟩
 have jN:∀k,(h:k < x.length)→∃h':k < L.length,L[k]=x[k].2:=fun k h=>⟨by rw[hL];simpa[gC]using h,by simp[hL,gC]⟩
 have hlen:L.length=x.length:=by rw[hL];simp[gC]
 rw[←hL]at hs hv⊢
 have H8:=mD L
 clear hL
 refine bd (c:=_) Tryz.func48 rfl rfl rfl (by decide) fun w M0 H Z=>?_
 repeat'(first|refine bH J ?_|(refine al ?_;refine aj th J ?_)|(refine au mix J J ?_;refine ak th J ?_)|(refine ao mix J J ?_;refine ay th J ?_)|refine SOps.nil ?_|refine DOps.nil ?_|refine EOps.nil ?_ rfl rfl|((first|refine aq J J ?_ ?_|refine av J J J ?_ ?_|refine aU J ?_ ?_)<;>intro hb<;>(try simp only[aF]at hb)<;>first|(exfalso;omega)|refine aj th J ?_|refine ak th J ?_|skip))
 refine Ra 3 1 (bh []) J J (.nil 1) ?_
 refine bE (fun k:Nat=>k≤x.length)
  (fun k=>[(0,.v (C1 (il x))),(2,.v (.one (.ptr 2 0))),(3,.v (.one (.ptr 3 0))),(4,.v (.one (.mp 19))),(5,.v (C1 (.int .i64 (fI (L.take k):Int)))),(20,.v (C1 (il x))),(21,.v (C1 (.int .i64 (x.length:Int)))),(22,.v (C1 (.int .i64 (k:Int))))])
  (fun k=>Ru (yA (L.take k)) (.box [.c .bK,.c (bh (ew (L.take k))),.c .bK])) (fun k=>x.length - k) 0 (aM _)
  (fun a w h=>h.sub (by exact⟨⟨_,rfl,.refl _⟩,⟨_,rfl,.refl _⟩,⟨_,rfl,.refl _⟩,⟨_,rfl,.refl _⟩,⟨_,rfl,.refl _⟩,⟨_,rfl,.refl _⟩,⟨_,rfl,aC (by simp)⟩,⟨_,rfl,aC J⟩,trivial⟩) (by exact⟨⟨_,rfl,.refl _⟩,⟨_,rfl,.refl _⟩,⟨_,rfl,.refl _⟩,trivial⟩) J J J) (fun k hk ih=>?_)
 by_cases bo:k < x.length
 ·have hx:(x.map oY)[k]? =some (oY x[k]):=by simp[bo]
  obtain⟨mF,K8⟩:=jN k bo
  have RT:=pZ mF
  have cS:=ih (k+1) bo (by omega)
  rw[aD mF,FH,ln,q8]at cS
  have pB:=L7 (ew (L.take k)) L[k].name (by have:=mD (L.take k);simp at this;omega)
  rw[K8]at cS pB RT
  clear ih
  generalize x[k]=q at *
  generalize ew (L.take k)=NV at *
  generalize yA (L.take k)=M at *
  generalize fI (L.take k)=c at *
  repeat'(first|refine bH J ?_|(refine al ?_;refine aj th J ?_)|(refine au mix J J ?_;refine ak th J ?_)|(refine ao mix J J ?_;refine ay th J ?_)|refine SOps.nil ?_|refine DOps.nil ?_|refine EOps.nil ?_ rfl rfl|((first|refine aq J J ?_ ?_|refine av J J J ?_ ?_|refine aU J ?_ ?_)<;>intro hb<;>(try simp only[aF]at hb)<;>first|(exfalso;omega)|refine aj th J ?_|refine ak th J ?_|skip)|((first|refine ch th J J J J J J J J J k _ J hx ?_|(refine Gx th (m:=u5 M) (.inl rfl) J J J J J J J J ?_;rw[Bb])|refine aS pB [] J J J J J J J J J J ?_);refine aj th J ?_)|(refine bO J J J J J J (by first|omega|(simp only[aw];omega)) ?_;refine aj th J ?_))
  exact bJ (by exact⟨⟨_,rfl,.refl _⟩,⟨_,rfl,.refl _⟩,⟨_,rfl,.refl _⟩,⟨_,rfl,.refl _⟩,⟨_,rfl,aC (by simp)⟩,⟨_,rfl,.refl _⟩,⟨_,rfl,.refl _⟩,⟨_,rfl,aC (by omega)⟩,trivial⟩) (by exact⟨⟨_,rfl,.refl _⟩,⟨_,rfl,.refl _⟩,⟨_,rfl,.refl _⟩,trivial⟩) J J J cS
 ·clear ih
  have gn:k=x.length:=by omega
  subst gn
  rw[ek (by omega)]
  have U3:(cM L).cs=[jV (gG (eV L) L),bh (ew L),cA ((ew L).map (eV L))]:=rfl
  rw[U3]
  have Iv:∀s,lU s (yA L)=eV L s:=fun s=>rfl
  have NW:∀k (h:k < L.length),∀t∈L[k].turns,∀a∈t.aP,0≤a.next∧a.next < 40:=fun k h t ht a ha=>by
   have hb:=hv _ (az h)
   obtain⟨hg,_,_⟩:=mQ hb
   obtain⟨j,hj,rfl⟩:=aB.1 ht
   have:=hg (j:Int) a (by rw[cg];unfold bn;rw[aJ,cZ,aa hj];exact ha)
   have h2:=fp hb
   rw[show L[k].g.length=L[k].turns.length by simp[Loc.g]]at this
   omega
  have AO:∀k (h:k < L.length),∀t∈L[k].turns,t.aP.length≤6:=fun k h t ht=>by
   have:=ml (hv _ (az h)) t ht
   unfold gd at this
   split at this
   ·simp only[ax,eQ]at this;rw[this.2];simp
   ·split at this
    ·simp only[ax]at this;exact(gm this.2).1.2
    ·cases this
  have NR:∀k (h:k < L.length),L[k].turns.length≤40:=fun k h=>(fp (hv _ (az h))).2
  obtain⟨g,hg⟩:∃g,g=eV L:=⟨_,rfl⟩
  rw[←hg]at Iv⊢
  clear U3 hg hv
  generalize ew L=NV at *
  generalize yA L=M at *
  repeat'(first|refine bH J ?_|(refine al ?_;refine aj th J ?_)|(refine au mix J J ?_;refine ak th J ?_)|(refine ao mix J J ?_;refine ay th J ?_)|refine SOps.nil ?_|refine DOps.nil ?_|refine EOps.nil ?_ rfl rfl|((first|refine aq J J ?_ ?_|refine av J J J ?_ ?_|refine aU J ?_ ?_)<;>intro hb<;>(try simp only[aF]at hb)<;>first|(exfalso;omega)|refine aj th J ?_|refine ak th J ?_|skip))
  refine l9 3 2 200 3 1 J J J J ?_
  refine bE (fun k:Nat=>k≤NV.length)
   (fun k=>[(0,.v (C1 (il x))),(2,.v (.one (.ptr 2 0))),(3,.v (.one (.ptr 3 0))),(4,.v (.one (.mp 19))),(46,.v (C1 (bh NV))),(47,.v (C1 (.int .i64 (NV.length:Int)))),(48,.v (C1 (.int .i64 (k:Int))))])
   (fun k=>(200,.arr false 3 1 (((NV.take k).map g).map fun r=>[CT.int .i64 r]))::Ru M (.box [.c .bK,.c (bh NV),.own 200])) (fun k=>NV.length - k) 0 (aM _)
   (fun a w h=>h.sub (by exact⟨⟨_,rfl,.refl _⟩,⟨_,rfl,.refl _⟩,⟨_,rfl,.refl _⟩,⟨_,rfl,.refl _⟩,⟨_,rfl,.refl _⟩,⟨_,rfl,aC (by simp)⟩,⟨_,rfl,aC J⟩,trivial⟩) (by exact⟨⟨_,rfl,dd J⟩,⟨_,rfl,.refl _⟩,⟨_,rfl,.refl _⟩,⟨_,rfl,.refl _⟩,trivial⟩) J J J) (fun k hk ih=>?_)
  by_cases bo:k < NV.length
  ·have hx:(NV.map fun s=>[CT.str s])[k]? =some [.str NV[k]]:=by simp[bo]
   have cS:=ih (k+1) bo (by omega)
   rw[aD bo,a6,a6]at cS
   have yS:=Iv NV[k]
   clear ih
   repeat'(first|refine bH J ?_|(refine al ?_;refine aj th J ?_)|(refine au mix J J ?_;refine ak th J ?_)|(refine ao mix J J ?_;refine ay th J ?_)|refine SOps.nil ?_|refine DOps.nil ?_|refine EOps.nil ?_ rfl rfl|((first|refine aq J J ?_ ?_|refine av J J J ?_ ?_|refine aU J ?_ ?_)<;>intro hb<;>(try simp only[aF]at hb)<;>first|(exfalso;omega)|refine aj th J ?_|refine ak th J ?_|skip)|((first|refine ch th J J J J J J J J J k _ J hx ?_|(refine xJ th (m:=u5 M) J J J J J J J J J J J J ?_;rw[rZ,yS]));refine aj th J ?_)|(refine pj 3 2 J ?_;refine er th J J J J J J J J J J J J J J J (by constructor<;>simp<;>omega) ?_;refine aj th J ?_)|(refine bO J J J J J J (by omega) ?_;refine aj th J ?_))
   exact bJ (by exact⟨⟨_,rfl,.refl _⟩,⟨_,rfl,.refl _⟩,⟨_,rfl,.refl _⟩,⟨_,rfl,.refl _⟩,⟨_,rfl,.refl _⟩,⟨_,rfl,.refl _⟩,⟨_,rfl,aC (by omega)⟩,trivial⟩) (by exact⟨⟨_,rfl,dd J⟩,⟨_,rfl,.refl _⟩,⟨_,rfl,.refl _⟩,⟨_,rfl,.refl _⟩,trivial⟩) J J J cS
  ·clear ih
   have gn:k=NV.length:=by omega
   subst gn
   rw[bC]
   repeat'(first|(refine dZ 200 J J ?_)|refine bH J ?_|(refine al ?_;refine aj th J ?_)|(refine au mix J J ?_;refine ak th J ?_)|(refine ao mix J J ?_;refine ay th J ?_)|refine SOps.nil ?_|refine DOps.nil ?_|refine EOps.nil ?_ rfl rfl|((first|refine aq J J ?_ ?_|refine av J J J ?_ ?_|refine aU J ?_ ?_)<;>intro hb<;>(try simp only[aF]at hb)<;>first|(exfalso;omega)|refine aj th J ?_|refine ak th J ?_|skip))
   refine l9 3 0 201 70 3 J J J J ?_
   refine bE (fun i:Nat=>i≤x.length)
    (fun i=>[(2,.v (.one (.ptr 2 0))),(3,.v (.one (.ptr 3 0))),(4,.v (.one (.mp 19))),(61,.v (C1 (il x))),(62,.v (C1 (.int .i64 (x.length:Int)))),(63,.v (C1 (.int .i64 (i:Int))))])
    (fun i=>(201,.arr false 70 3 ((gG g (L.take i)).map Nd.cs))::Ru M (.box [.own 201,.c (bh NV),.c (cA (NV.map g))])) (fun i=>x.length - i) 0 (aM _)
    (fun a w h=>h.sub (by exact⟨⟨_,rfl,.refl _⟩,⟨_,rfl,.refl _⟩,⟨_,rfl,.refl _⟩,⟨_,rfl,.refl _⟩,⟨_,rfl,aC (by simp)⟩,⟨_,rfl,aC J⟩,trivial⟩) (by exact⟨⟨_,rfl,dd J⟩,⟨_,rfl,.refl _⟩,⟨_,rfl,.refl _⟩,⟨_,rfl,.refl _⟩,trivial⟩) J J J) (fun i hi ih=>?_)
   by_cases vK:i < x.length
   ·have hx:(x.map oY)[i]? =some (oY x[i]):=by simp[vK]
    obtain⟨mF,K8⟩:=jN i vK
    have RT:=pZ mF
    have AD:=NW i mF
    have R8:=AO i mF
    have VE:=NR i mF
    have cS:=ih (i+1) vK (by omega)
    have Tb:=im (g:=g) (L.take i)
    rw[aD mF,ll]at cS
    rw[K8]at cS RT AD R8 VE
    clear ih
    generalize x[i]=q at *
    generalize gG g (L.take i)=ND at *
    rw[←Tb]at RT
    repeat'(first|refine bH J ?_|(refine al ?_;refine aj th J ?_)|(refine au mix J J ?_;refine ak th J ?_)|(refine ao mix J J ?_;refine ay th J ?_)|refine SOps.nil ?_|refine DOps.nil ?_|refine EOps.nil ?_ rfl rfl|((first|refine aq J J ?_ ?_|refine av J J J ?_ ?_|refine aU J ?_ ?_)<;>intro hb<;>(try simp only[aF]at hb)<;>first|(exfalso;omega)|refine aj th J ?_|refine ak th J ?_|skip)|(refine ch th J J J J J J J J J i _ J hx ?_;refine aj th J ?_))
    refine bE (fun t:Nat=>t≤q.2.turns.length)
     (fun t=>[(2,.v (.one (.ptr 2 0))),(3,.v (.one (.ptr 3 0))),(4,.v (.one (.mp 19))),(61,.v (C1 (il x))),(62,.v (C1 (.int .i64 (x.length:Int)))),(63,.v (C1 (.int .i64 (i:Int)))),(12,.v (C1 (.int .i64 (ND.length:Int)))),(72,.v (C1 (gi q.2.turns))),(73,.v (C1 (.int .i64 (q.2.turns.length:Int)))),(74,.v (C1 (.int .i64 (t:Int))))])
     (fun t=>(201,.arr false 70 3 ((ND++(q.2.turns.take t).map (mO g (ND.length:Int))).map Nd.cs))::Ru M (.box [.own 201,.c (bh NV),.c (cA (NV.map g))])) (fun t=>q.2.turns.length - t) 0 (aM _)
     (fun a w h=>h.sub (by exact⟨⟨_,rfl,.refl _⟩,⟨_,rfl,.refl _⟩,⟨_,rfl,.refl _⟩,⟨_,rfl,.refl _⟩,⟨_,rfl,.refl _⟩,⟨_,rfl,.refl _⟩,⟨_,rfl,aC (by simp)⟩,⟨_,rfl,.refl _⟩,⟨_,rfl,aC (by simp)⟩,⟨_,rfl,aC J⟩,trivial⟩) (by exact⟨⟨_,rfl,dd (by simp)⟩,⟨_,rfl,.refl _⟩,⟨_,rfl,.refl _⟩,⟨_,rfl,.refl _⟩,trivial⟩) J J J) (fun t ht oZ=>?_)
    by_cases Bq:t < q.2.turns.length
    ·have Vu:(q.2.turns.map fe.cs)[t]? =some (q.2.turns[t]).cs:=by simp[Bq]
     have VJ:=AD _ (az Bq)
     have ha3:=R8 _ (az Bq)
     have l3:=oZ (t+1) Bq (by omega)
     rw[vb _ _ Bq,a6]at l3
     have Qg:(q.2.turns.take t).length=t:=by simp;omega
     clear oZ cS
     generalize q.2.turns[t]=tu at *
     repeat'(first|refine bH J ?_|(refine al ?_;refine aj th J ?_)|(refine au mix J J ?_;refine ak th J ?_)|(refine ao mix J J ?_;refine ay th J ?_)|refine SOps.nil ?_|refine DOps.nil ?_|refine EOps.nil ?_ rfl rfl|((first|refine aq J J ?_ ?_|refine av J J J ?_ ?_|refine aU J ?_ ?_)<;>intro hb<;>(try simp only[aF]at hb)<;>first|(exfalso;omega)|refine aj th J ?_|refine ak th J ?_|skip)|(refine ch th J J J J J J J J J t _ J Vu ?_;refine aj th J ?_))
     refine l9 15 2 202 72 4 J J J J ?_
     refine bE (fun k:Nat=>k≤tu.aP.length)
      (fun k=>[(2,.v (.one (.ptr 2 0))),(3,.v (.one (.ptr 3 0))),(4,.v (.one (.mp 19))),(61,.v (C1 (il x))),(62,.v (C1 (.int .i64 (x.length:Int)))),(63,.v (C1 (.int .i64 (i:Int)))),(12,.v (C1 (.int .i64 (ND.length:Int)))),(72,.v (C1 (gi q.2.turns))),(73,.v (C1 (.int .i64 (q.2.turns.length:Int)))),(74,.v (C1 (.int .i64 (t:Int)))),(15,.v (.one (.ptr 15 0))),(84,.v (C1 (kc tu.aP))),(85,.v (C1 (.int .i64 (tu.aP.length:Int)))),(86,.v (C1 (.int .i64 (k:Int))))])
      (fun k=>(202,.arr false 72 4 (((tu.aP.take k).map (mU g (ND.length:Int))).map Edge.cs))::(15,.box [.c (.int .i64 tu.kind),.c (.str tu.peer),.own 202])::(201,.arr false 70 3 ((ND++(q.2.turns.take t).map (mO g (ND.length:Int))).map Nd.cs))::Ru M (.box [.own 201,.c (bh NV),.c (cA (NV.map g))])) (fun k=>tu.aP.length - k) 0 (aM _)
      (fun a w h=>h.sub (by exact⟨⟨_,rfl,.refl _⟩,⟨_,rfl,.refl _⟩,⟨_,rfl,.refl _⟩,⟨_,rfl,.refl _⟩,⟨_,rfl,.refl _⟩,⟨_,rfl,.refl _⟩,⟨_,rfl,.refl _⟩,⟨_,rfl,.refl _⟩,⟨_,rfl,.refl _⟩,⟨_,rfl,.refl _⟩,⟨_,rfl,.refl _⟩,⟨_,rfl,.refl _⟩,⟨_,rfl,aC (by simp)⟩,⟨_,rfl,aC J⟩,trivial⟩)
        (by exact⟨⟨_,rfl,dd J⟩,⟨_,rfl,.refl _⟩,⟨_,rfl,.refl _⟩,⟨_,rfl,.refl _⟩,⟨_,rfl,.refl _⟩,⟨_,rfl,.refl _⟩,trivial⟩) J J J) (fun k hk SK=>?_)
     by_cases kl:k < tu.aP.length
     ·have NN:(tu.aP.map bM.cs)[k]? =some (tu.aP[k]).cs:=by simp[kl]
      have DR:=VJ _ (az kl)
      have QW:=SK (k+1) kl (by omega)
      rw[aD kl,a6,a6]at QW
      have yS:=Iv tu.aP[k].name
      clear SK l3
      generalize tu.aP[k]=a at *
      by_cases h5:a.kind=5
      all_goals
       repeat'(first|(exfalso;exact h5 hb)|(exfalso;exact hb h5)|refine bH J ?_|(refine al ?_;refine aj th J ?_)|(refine au mix J J ?_;refine ak th J ?_)|(refine ao mix J J ?_;refine ay th J ?_)|refine SOps.nil ?_|refine DOps.nil ?_|refine EOps.nil ?_ rfl rfl|((first|refine aq J J ?_ ?_|refine av J J J ?_ ?_|refine aU J ?_ ?_)<;>intro hb<;>(try simp only[aF]at hb)<;>first|(exfalso;omega)|refine aj th J ?_|refine ak th J ?_|skip)|((first|refine ch th J J J J J J J J J k _ J NN ?_|(refine xJ th (m:=u5 M) J J J J J J J J J J J J ?_;rw[rZ,yS]));refine aj th J ?_)|(refine pj 15 2 J ?_;refine er th J J J J J J J J J J J J J J J (by constructor<;>simp<;>omega) ?_;refine aj th J ?_)|(refine bO J J J J J J (by omega) ?_;refine aj th J ?_))
       all_goals
        exact bJ (by exact⟨⟨_,rfl,.refl _⟩,⟨_,rfl,.refl _⟩,⟨_,rfl,.refl _⟩,⟨_,rfl,.refl _⟩,⟨_,rfl,.refl _⟩,⟨_,rfl,.refl _⟩,⟨_,rfl,.refl _⟩,⟨_,rfl,.refl _⟩,⟨_,rfl,.refl _⟩,⟨_,rfl,.refl _⟩,⟨_,rfl,.refl _⟩,⟨_,rfl,.refl _⟩,⟨_,rfl,.refl _⟩,⟨_,rfl,aC (by omega)⟩,trivial⟩)
            (by exact⟨⟨_,rfl,dd (by simp[mU,h5])⟩,⟨_,rfl,.refl _⟩,⟨_,rfl,.refl _⟩,⟨_,rfl,.refl _⟩,⟨_,rfl,.refl _⟩,⟨_,rfl,.refl _⟩,trivial⟩) J J J QW
     ·clear SK
      have gn:k=tu.aP.length:=by omega
      subst gn
      rw[bC]
      repeat'(first|refine bH J ?_|(refine al ?_;refine aj th J ?_)|(refine au mix J J ?_;refine ak th J ?_)|(refine ao mix J J ?_;refine ay th J ?_)|refine SOps.nil ?_|refine DOps.nil ?_|refine EOps.nil ?_ rfl rfl|((first|refine aq J J ?_ ?_|refine av J J J ?_ ?_|refine aU J ?_ ?_)<;>intro hb<;>(try simp only[aF]at hb)<;>first|(exfalso;omega)|refine aj th J ?_|refine ak th J ?_|skip)|(refine nq 202 J J ?_;refine aj th J ?_)|(refine pj 3 0 J ?_;refine er th J J J J J J J J J J J J J J J (by constructor<;>simp<;>omega) ?_;refine aj th J ?_)|(refine bO J J J J J J (by omega) ?_;refine aj th J ?_))
      all_goals
       exact bJ (by exact⟨⟨_,rfl,.refl _⟩,⟨_,rfl,.refl _⟩,⟨_,rfl,.refl _⟩,⟨_,rfl,.refl _⟩,⟨_,rfl,.refl _⟩,⟨_,rfl,.refl _⟩,⟨_,rfl,.refl _⟩,⟨_,rfl,.refl _⟩,⟨_,rfl,.refl _⟩,⟨_,rfl,aC (by omega)⟩,trivial⟩)
        (by exact⟨⟨_,rfl,dd (by simp[mO])⟩,⟨_,rfl,.refl _⟩,⟨_,rfl,.refl _⟩,⟨_,rfl,.refl _⟩,trivial⟩) J J J l3
    ·clear oZ
     have VD:t=q.2.turns.length:=by omega
     subst VD
     rw[bC]
     repeat'(first|refine bH J ?_|(refine al ?_;refine aj th J ?_)|(refine au mix J J ?_;refine ak th J ?_)|(refine ao mix J J ?_;refine ay th J ?_)|refine SOps.nil ?_|refine DOps.nil ?_|refine EOps.nil ?_ rfl rfl|((first|refine aq J J ?_ ?_|refine av J J J ?_ ?_|refine aU J ?_ ?_)<;>intro hb<;>(try simp only[aF]at hb)<;>first|(exfalso;omega)|refine aj th J ?_|refine ak th J ?_|skip)|(refine bO J J J J J J (by omega) ?_;refine aj th J ?_))
     exact bJ (by exact⟨⟨_,rfl,.refl _⟩,⟨_,rfl,.refl _⟩,⟨_,rfl,.refl _⟩,⟨_,rfl,.refl _⟩,⟨_,rfl,.refl _⟩,⟨_,rfl,aC (by omega)⟩,trivial⟩) (by exact⟨⟨_,rfl,dd J⟩,⟨_,rfl,.refl _⟩,⟨_,rfl,.refl _⟩,⟨_,rfl,.refl _⟩,trivial⟩) J J J cS
   ·clear ih
    have Oh:i=x.length:=by omega
    subst Oh
    rw[ek (by omega)]
    repeat'(first|(refine dZ 201 J J ?_)|refine bH J ?_|(refine al ?_;refine aj th J ?_)|(refine au mix J J ?_;refine ak th J ?_)|(refine ao mix J J ?_;refine ay th J ?_)|refine SOps.nil ?_|refine DOps.nil ?_|refine EOps.nil ?_ rfl rfl|((first|refine aq J J ?_ ?_|refine av J J J ?_ ?_|refine aU J ?_ ?_)<;>intro hb<;>(try simp only[aF]at hb)<;>first|(exfalso;omega)|refine aj th J ?_|refine ak th J ?_|skip)|refine aT th Tryz.func48 (.inr ⟨_,rfl⟩) J J J ?_ rfl)
    all_goals exact .refl _
end Go.Sy
set_option linter.unusedSimpArgs false
set_option linter.unusedVariables false
set_option linter.unusedSectionVars false
namespace Go.Sy
section
variable {C:Ctx} {n:Nat} {L:List Oper} {dc:TM} {ι:Type} {ET:Nat→ι→TM} {ic:Nat→ι→MM} {k:Nat} {x:ι} {o:Oper}
end
section
variable {C:Ctx} {n:Nat} {L l:List Oper} {tm cp:TM} {E:List Nat} {i:Nat} {mmf:Nat→MM} {TF:TM→Prop} {o:Oper} {d:Nat} {x:Operand}
end
theorem uw{nn:Bool}{e sz:Nat}{xs ys:List (List CT)}(h:xs=ys):F5 (.arr nn e sz xs) (.arr nn e sz ys):=h▸.refl _
end Go.Sy
