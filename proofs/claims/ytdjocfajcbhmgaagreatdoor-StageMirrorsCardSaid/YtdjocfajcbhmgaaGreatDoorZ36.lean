/- Contracts: reparteemake.Local, its turns as a row of one's own; layer 12's pair. -/
import Derived.Test.YtdjocfajcbhmgaaGreatDoorBd1
import Derived.Test.YtdjocfajcbhmgaaGreatDoorBu1
import Derived.Test.YtdjocfajcbhmgaaGreatDoorZ14
import Derived.Test.YtdjocfajcbhmgaaGreatDoorZ35
import Derived.Test.YtdjocfajcbhmgaaGreatDoorBv1
set_option linter.unusedSimpArgs false
set_option linter.unusedVariables false
set_option linter.unusedSectionVars false
namespace Go.Sy
open Go.Proofs
set_option maxRecDepth 100000
attribute [local irreducible] SOps Goes DOps EOps GOps
set_option maxHeartbeats 8000000 in
theorem NA(name:ByteArray)(types:List ByteArray)(ht:types.length≤1000)(l:List Int)(k:Nat)(hk:k≤l.length):
 r5 Tryz.prog 31 [(given,.box ((mg l k).map SC.c))] [.one (.ptr given 0),C1 (.str name),C1 (bh types)]
  (fun _:Value=>True) (fun v=>.v (.agg [.c (.str name),.c (.val v)])) (fun v=>[(given,.box ((mg l (vE name types l k).2).map SC.c)),(200,.bG 39 3 [(v,(vE name types l k).1.turns.map fe.cs)])]):=by
 have yP:=fW hk
 have AG:=fW yP
 have FR:=dW l k (n:=6) (by omega) (by omega)
 have AD:=dW l (fQ l k) (n:=2) (by omega) (by omega)
 refine Ly (c:=_) Tryz.func31 rfl rfl rfl (by decide) J fun w M0 H Z hd=>?_
 repeat'(first|refine bH J ?_|(refine al ?_;refine aj th J ?_)|(refine au mix J J ?_;refine ak th J ?_)|(refine ao mix J J ?_;refine ay th J ?_)|refine SOps.nil ?_|refine DOps.nil ?_|refine EOps.nil ?_ rfl rfl|((first|refine aq J J ?_ ?_|refine av J J J ?_ ?_|refine aU J ?_ ?_)<;>intro hb<;>(try simp only[aF]at hb)<;>first|(exfalso;omega)|refine aj th J ?_|refine ak th J ?_|skip)|((first|refine aS (iQ l k hk 6 (by omega) (by omega)) [given] J J J J J J J J J J ?_|refine aS (iQ l (fQ l k) yP 2 (by omega) (by omega)) [given] J J J J J J J J J J ?_|refine bO J J J J J J (by omega) ?_);refine aj th J ?_))
 obtain⟨pe,rL⟩:∃pe,pe=1+ij l (fQ l k) 2:=⟨_,rfl⟩
 obtain⟨k0,Mo⟩:∃k0,k0=fQ l (fQ l k):=⟨_,rfl⟩
 obtain⟨kT,Om⟩:∃kT:Nat,kT=(1+ij l k 6).toNat:=⟨_,rfl⟩
 have Px:(1+ij l k 6:Int)=(kT:Int):=by omega
 have Wl:1≤kT∧kT≤6:=by omega
 have Pm:1≤pe∧pe≤2:=by omega
 have oS:vE name types l k=(⟨name,(e8 types l kT pe k0 kT).1⟩,(e8 types l kT pe k0 kT).2):=by rw[rL,Mo,←Px,Om];rfl
 rw[oS]
 rw[←rL,←Mo,Px]
 rw[←Mo]at AG
 refine l9 9 1 200 39 3 J J J J ?_
 refine bE (fun i:Nat=>i≤kT)
  (fun i=>[(0,.v (.one (.ptr given 0))),(2,.v (C1 (bh types))),(6,.v (.one (.ptr 6 0))),(7,.v (C1 (.int .i64 (kT:Int)))),(8,.v (C1 (.int .i64 pe))),(9,.v (.one (.ptr 9 0))),(10,.v (C1 (.int .i64 (i:Int))))])
  (fun i=>[(given,.box ((mg l (e8 types l kT pe k0 i).2).map SC.c)),(6,.box [.c (.str ⟨#[]⟩),.c .bK]),(9,.box [.c (.str name),.own 200]),(200,.arr false 39 3 ((e8 types l kT pe k0 i).1.map fe.cs))])
  (fun i=>kT - i) 0 (aM _)
  (fun a w h=>h.sub (by exact⟨⟨_,rfl,.refl _⟩,⟨_,rfl,.refl _⟩,⟨_,rfl,.refl _⟩,⟨_,rfl,.refl _⟩,⟨_,rfl,.refl _⟩,⟨_,rfl,.refl _⟩,⟨_,rfl,aC J⟩,trivial⟩) (by exact⟨⟨_,rfl,.refl _⟩,⟨_,rfl,.refl _⟩,⟨_,rfl,.refl _⟩,⟨_,rfl,dd J⟩,trivial⟩) J J J) (fun i hi ih=>?_)
 have hle:=Dh (types:=types) (n:=(kT:Int)) (q:=pe) AG i
 have Ii:=fW hle
 have K0:=fW Ii
 have Bq:=tp (types:=types) (l:=l) (n:=(kT:Int)) (q:=pe) (k:=k0) i
 by_cases bo:i < kT
 ·have S4:=dW l (e8 types l kT pe k0 i).2 (n:=5) (by omega) (by omega)
  have KU:=dW l (fQ l (e8 types l kT pe k0 i).2) (n:=pe) (by omega) (by omega)
  have Ib:0≤(ij l (e8 types l kT pe k0 i).2 5).tmod 2∧(ij l (e8 types l kT pe k0 i).2 5).tmod 2 < 2:=⟨vV _ S4.1,pT _ (by omega)⟩
  repeat'(first|(refine DZ 17 [given] mix J J J J J J J J ?_;refine jO th J ?_)|refine bH J ?_|(refine al ?_;refine aj th J ?_)|(refine au mix J J ?_;refine ak th J ?_)|(refine ao mix J J ?_;refine ay th J ?_)|refine SOps.nil ?_|refine DOps.nil ?_|refine EOps.nil ?_ rfl rfl|((first|refine aq J J ?_ ?_|refine av J J J ?_ ?_|refine aU J ?_ ?_)<;>intro hb<;>(try simp only[aF]at hb)<;>first|(exfalso;omega)|refine aj th J ?_|refine ak th J ?_|skip)|(refine aS (iQ l _ hle 5 (by omega) (by omega)) [given] J J J J J J J J J J ?_;refine aj th J ?_)|(refine pj 9 1 J ?_;refine er th J J J J J J J J J J J J J J J (by constructor<;>simp[Bq]<;>omega) ?_;refine aj th J ?_)|(refine pj 9 1 J ?_;refine jv th J J J J J J J J J J J J J J (by constructor<;>simp[Bq]<;>omega) ?_;refine aj th J ?_)|((first|refine GR JY J J J J J J J ?_|refine L6 J J J J J J (by omega) ?_|refine L4 J J J J J J (by decide) ?_|refine L5 th J J J J J J J J J (ij l (fQ l (e8 types l kT pe k0 i).2) pe).toNat _ (by omega) (GG (by omega)) ?_|refine Du (iQ l _ Ii pe (by omega) (by omega)) [given] J J J J J J J J J J J (qh (ids:=[given]) J) ?_|refine Du (O3 types ht l _ K0 (kT:Int) (by omega) (by omega)) [given] J J J J J J J J J J J (qh (ids:=[given]) J) ?_|refine GQ th J J J J J J J J J J J J (.refl _) ?_);refine jO th J ?_)|refine GOps.nil ?_|(refine bO J J J J J J (by omega) ?_;refine aj th J ?_))
  ·have cS:=ih (i+1) bo (by omega)
   rw[show e8 types l kT pe k0 (i+1)=((e8 types l kT pe k0 i).1++[mP],fQ l (e8 types l kT pe k0 i).2) by rw[e8,if_pos hb]]at cS
   refine bJ (by exact⟨⟨_,rfl,.refl _⟩,⟨_,rfl,.refl _⟩,⟨_,rfl,.refl _⟩,⟨_,rfl,.refl _⟩,⟨_,rfl,.refl _⟩,⟨_,rfl,.refl _⟩,⟨_,rfl,aC (by omega)⟩,trivial⟩) ?_ rfl rfl rfl cS
   refine⟨⟨_,rfl,.refl _⟩,⟨_,rfl,.refl _⟩,⟨_,rfl,.refl _⟩,⟨_,rfl,?_⟩,trivial⟩
   rw[a6]
   exact .arr (.append (.refl _) (.cons (.cons (.refl _) (.cons (.refl _) (.cons (.nil 4) .nil))) .nil))
  ·have cS:=ih (i+1) bo (by omega)
   rw[show e8 types l kT pe k0 (i+1)=((e8 types l kT pe k0 i).1++[⟨1+(ij l (e8 types l kT pe k0 i).2 5).tmod 2,po.getD (ij l (fQ l (e8 types l kT pe k0 i).2) pe).toNat ⟨#[]⟩,(u7 types l (fQ l (fQ l (e8 types l kT pe k0 i).2)) kT).1⟩],(u7 types l (fQ l (fQ l (e8 types l kT pe k0 i).2)) kT).2) by rw[e8,if_neg hb]]at cS
   refine bJ (by exact⟨⟨_,rfl,.refl _⟩,⟨_,rfl,.refl _⟩,⟨_,rfl,.refl _⟩,⟨_,rfl,.refl _⟩,⟨_,rfl,.refl _⟩,⟨_,rfl,.refl _⟩,⟨_,rfl,aC (by omega)⟩,trivial⟩) ?_ rfl rfl rfl cS
   exact⟨⟨_,rfl,.refl _⟩,⟨_,rfl,.refl _⟩,⟨_,rfl,.refl _⟩,⟨_,rfl,dd (by rw[a6];rfl)⟩,trivial⟩
 ·have Oh:i=kT:=by omega
  subst Oh
  repeat'(first|refine bH J ?_|(refine al ?_;refine aj th J ?_)|(refine au mix J J ?_;refine ak th J ?_)|(refine ao mix J J ?_;refine ay th J ?_)|refine SOps.nil ?_|refine DOps.nil ?_|refine EOps.nil ?_ rfl rfl|((first|refine aq J J ?_ ?_|refine av J J J ?_ ?_|refine aU J ?_ ?_)<;>intro hb<;>(try simp only[aF]at hb)<;>first|(exfalso;omega)|refine aj th J ?_|refine ak th J ?_|skip))
  refine l7 200 J J fun v=>?_
  exact OL (hd:=hd) th Tryz.func31 v (.inr ⟨_,rfl⟩) J J J J ⟨rfl,rfl,trivial⟩ rfl rfl rfl trivial
theorem Gu{α β:Type}(f:α→α)(g:α→β)(l:List α)(m:Nat)(hm:m < l.length):
 (((l.take m).map f++l.drop m).map g).set m (g (f l[m]))=((l.take (m+1)).map f++l.drop (m+1)).map g:=by
 rw[←lJ]
 congr 1
 rw[List.set_append_right _ _ (by simp;omega),aD hm,a6,br]
 congr 1
 have:m - ((l.take m).map f).length=0:=by simp;omega
 rw[this,gb hm]
 rfl
theorem HB{α β:Type}(f:α→α)(g:α→β)(l:List α)(m:Nat)(hm:m < l.length):(((l.take m).map f++l.drop m).map g)[m]? =some (g l[m]):=by
 rw[aI,aO (by simp;omega),ca]
 have:m+(m - ((l.take m).map f).length)=m:=by simp;omega
 rw[this,aa hm];rfl
theorem Gt{α:Type}{l:List α}{i:Nat}{x:α}(h:l[i]? =some x):l.set i x=l:=by
 obtain⟨h1,rfl⟩:=ai.1 h
 exact List.set_getElem_self h1
end Go.Sy
set_option linter.unusedSimpArgs false
set_option linter.unusedVariables false
set_option linter.unusedSectionVars false
namespace Go.Sy
open Go.Proofs
set_option maxRecDepth 100000
attribute [local irreducible] SOps Goes DOps EOps
theorem Nv{me:ByteArray}{t:fe}(h:t.kind=1):fS me t=⟨2,me,t.aP⟩:=if_pos h
theorem Nu{me:ByteArray}{t:fe}(h1:¬t.kind=1)(h:t.kind=2):fS me t=⟨1,me,t.aP⟩:=by unfold fS;rw[if_neg h1,if_pos h]
theorem Nw{me:ByteArray}{t:fe}(h1:¬t.kind=1)(h:¬t.kind=2):fS me t=t:=by unfold fS;rw[if_neg h1,if_neg h]
theorem Gf(t:fe)(me:ByteArray):dy Tryz.prog 82 [] [Ag t.cs,C1 (.str me)] (.v (Ag (fS me t).cs)) []:=by
 refine bd (c:=_) Tryz.func82 rfl rfl rfl (by decide) fun w M0 H Z=>?_
 repeat'(first|refine bH J ?_|(refine al ?_;refine aj th J ?_)|(refine au mix J J ?_;refine ak th J ?_)|(refine ao mix J J ?_;refine ay th J ?_)|refine SOps.nil ?_|refine DOps.nil ?_|refine EOps.nil ?_ rfl rfl|((first|refine aq J J ?_ ?_|refine av J J J ?_ ?_|refine aU J ?_ ?_)<;>intro hb<;>(try simp only[aF]at hb)<;>first|(exfalso;omega)|refine aj th J ?_|refine ak th J ?_|skip)|refine aT th Tryz.func82 (.inr ⟨_,rfl⟩) J J J ?_ rfl)
 all_goals first|(rw[Nv (by assumption)];exact .refl _)|(rw[Nu (by assumption) (by assumption)];exact .refl _)|(rw[Nw (by assumption) (by assumption)];exact .refl _)
theorem P1(t:fe)(me:ByteArray):dy Tryz.prog 81 [[.str me]] [Ag t.cs,.one (.ptr given 0)] (.v (Ag (fS me t).cs)) [[.str me]]:=by
 have h:=Gf t me
 generalize fS me t=s at h⊢
 refine bd (c:=_) Tryz.func81 rfl rfl rfl (by decide) fun w M0 H Z=>?_
 repeat'(first|refine bH J ?_|(refine al ?_;refine aj th J ?_)|(refine au mix J J ?_;refine ak th J ?_)|(refine ao mix J J ?_;refine ay th J ?_)|refine SOps.nil ?_|refine DOps.nil ?_|refine EOps.nil ?_ rfl rfl|((first|refine aq J J ?_ ?_|refine av J J J ?_ ?_|refine aU J ?_ ?_)<;>intro hb<;>(try simp only[aF]at hb)<;>first|(exfalso;omega)|refine aj th J ?_|refine ak th J ?_|skip)|refine aT th Tryz.func81 (.inr ⟨_,rfl⟩) J J J ?_ rfl|(refine aS h [] J J J J J J J J J J ?_;refine aj th J ?_))
 all_goals exact .refl _
set_option maxHeartbeats 4000000 in
theorem OR(h:fe→fe)(l:List fe)(hl:l.length≤40)(g:Nat)(c0:CT)
 (hc:∀e:fe,dy Tryz.prog g [[c0]] [Ag e.cs,.one (.ptr given 0)] (.v (Ag (h e).cs)) [[c0]]):
 dy Tryz.prog 80 [[c0]] [C1 (gi l),.one (.ku g [given])] (Rv (gi (l.map h))) [[c0]]:=by
 refine bd (c:=_) Tryz.func80 rfl rfl rfl (by decide) fun w M0 H Z=>?_
 repeat'(first|refine bH J ?_|(refine al ?_;refine aj th J ?_)|(refine au mix J J ?_;refine ak th J ?_)|(refine ao mix J J ?_;refine ay th J ?_)|refine SOps.nil ?_|refine DOps.nil ?_|refine EOps.nil ?_ rfl rfl|((first|refine aq J J ?_ ?_|refine av J J J ?_ ?_|refine aU J ?_ ?_)<;>intro hb<;>(try simp only[aF]at hb)<;>first|(exfalso;omega)|refine aj th J ?_|refine ak th J ?_|skip))
 refine qy 5 200 39 3 J J J ?_
 refine bE (fun k:Nat=>k≤l.length)
  (fun k=>[(1,.v (.one (.ku g [given]))),(5,.v (.one (.own 200))),(8,.v (C1 (gi l))),(9,.v (C1 (.int .i64 (l.length:Int)))),(10,.v (C1 (.int .i64 (k:Int))))])
  (fun k=>[(given,.box [.c c0]),(200,.arr false 39 3 (((l.take k).map h).map fe.cs))]) (fun k=>l.length - k) 0 (aM _)
  (fun a w h=>h.sub (by exact⟨⟨_,rfl,.refl _⟩,⟨_,rfl,.refl _⟩,⟨_,rfl,.refl _⟩,⟨_,rfl,aC (by simp)⟩,⟨_,rfl,aC J⟩,trivial⟩) (by exact⟨⟨_,rfl,.refl _⟩,⟨_,rfl,dd J⟩,trivial⟩) J J J) (fun k hk ih=>?_)
 by_cases bo:k < l.length
 ·have hx:(l.map fe.cs)[k]? =some (l[k]).cs:=by simp[bo]
  have Qk:((l.take (k+1)).map h).map fe.cs=((l.take k).map h).map fe.cs++[(h l[k]).cs]:=by
   rw[aD bo,a6,a6];rfl
  have Qg:(l.take k).length=k:=by simp;omega
  have cS:=ih (k+1) bo (by omega)
  rw[Qk]at cS
  have Pv:=hc l[k]
  generalize h l[k]=s at Pv cS
  repeat'(first|refine bH J ?_|(refine al ?_;refine aj th J ?_)|(refine au mix J J ?_;refine ak th J ?_)|(refine ao mix J J ?_;refine ay th J ?_)|refine SOps.nil ?_|refine DOps.nil ?_|refine EOps.nil ?_ rfl rfl|((first|refine aq J J ?_ ?_|refine av J J J ?_ ?_|refine aU J ?_ ?_)<;>intro hb<;>(try simp only[aF]at hb)<;>first|(exfalso;omega)|refine aj th J ?_|refine ak th J ?_|skip)|((first|refine ch th J J J J J J J J J k _ J hx ?_|refine oW Pv [given] J J J J J J J J J J J J ?_);refine aj th J ?_)|(refine er th J J J J J J J J J J J J J J J (by constructor<;>simp[Qg]<;>omega) ?_;refine aj th J ?_)|(refine bO J J J J J J (by omega) ?_;refine aj th J ?_))
  all_goals exact bJ (by exact⟨⟨_,rfl,.refl _⟩,⟨_,rfl,.refl _⟩,⟨_,rfl,.refl _⟩,⟨_,rfl,.refl _⟩,⟨_,rfl,aC (by omega)⟩,trivial⟩) (by exact⟨⟨_,rfl,.refl _⟩,⟨_,rfl,.refl _⟩,trivial⟩) J J J cS
 ·rw[ek (by omega)]
  repeat'(first|refine bH J ?_|(refine al ?_;refine aj th J ?_)|(refine au mix J J ?_;refine ak th J ?_)|(refine ao mix J J ?_;refine ay th J ?_)|refine SOps.nil ?_|refine DOps.nil ?_|refine EOps.nil ?_ rfl rfl|((first|refine aq J J ?_ ?_|refine av J J J ?_ ?_|refine aU J ?_ ?_)<;>intro hb<;>(try simp only[aF]at hb)<;>first|(exfalso;omega)|refine aj th J ?_|refine ak th J ?_|skip))
  refine dZ 200 J J ?_
  refine aT th Tryz.func80 (.inr ⟨_,rfl⟩) J J J ?_ rfl
  exact .refl _
def oX(l:Loc)(me:ByteArray)(p:List ByteArray):ByteArray×Int:=
 if c7 l&&bZ me then(if decide (1 < p.length)||hasB p me then(⟨#[]⟩,1201)else(p.getD 0 ⟨#[]⟩,0))else(⟨#[]⟩,1200)
set_option maxHeartbeats 4000000 in
theorem Nb(l:Loc)(hB:iv l)(me:ByteArray):dy Tryz.prog 78 [] [Ag l.cs,C1 (.str me)] (.gE [C1 (.str (lQ l me).1),C1 (.int .i64 (lQ l me).2)]) []:=by
 have c1:=tt l hB
 have c2:=nB me
 have c3:=Gk l hB
 have c4:=Iw (fL l) me
 show dy _ _ _ _ (.gE [C1 (.str (oX l me (fL l)).1),C1 (.int .i64 (oX l me (fL l)).2)]) _
 obtain⟨p,hp⟩:∃p,p=fL l:=⟨_,rfl⟩
 rw[←hp]at c3 c4⊢
 clear hp
 have hx:∀h:0 < p.length,(p.map fun s=>[CT.str s])[0]? =some [.str (p.getD 0 ⟨#[]⟩)]:=fun h=>by
  rw[aI,aa h,aJ,aa h];rfl
 refine bd (c:=_) Tryz.func78 rfl rfl rfl (by decide) fun w M0 H Z=>?_
 repeat'(first|refine bH J ?_|(refine al ?_;refine aj th J ?_)|(refine au mix J J ?_;refine ak th J ?_)|(refine ao mix J J ?_;refine ay th J ?_)|refine SOps.nil ?_|refine DOps.nil ?_|refine EOps.nil ?_ rfl rfl|((first|refine aq J J ?_ ?_|refine av J J J ?_ ?_|refine aU J ?_ ?_)<;>intro hb<;>(try simp only[aF]at hb)<;>first|(exfalso;omega)|refine aj th J ?_|refine ak th J ?_|skip)|refine aT th Tryz.func78 (.inr ⟨_,rfl⟩) J J J ?_ rfl|((first|refine aS c1 [] J J J J J J J J J J ?_|refine aS c2 [] J J J J J J J J J J ?_|refine aS c3 [] J J J J J J J J J J ?_|refine aS c4 [] J J J J J J J J J J ?_|refine ch th J J J J J J J J J 0 _ J (hx (by omega)) ?_);refine aj th J ?_))
 all_goals first
  |(rw[show oX l me p=(⟨#[]⟩,1200) by unfold oX;simp[*]];exact .refl _)
  |(rw[show oX l me p=(⟨#[]⟩,1201) by
     unfold oX
     first|(rw[decide_eq_true (show 1 < p.length by omega)];simp[*];done)|(simp[*];done)];exact .refl _)
  |(rw[show oX l me p=(⟨#[]⟩,0) by
     have Pn:p=[]:=la.1 (by omega)
     subst Pn
     unfold oX;simp[*]];exact .refl _)
  |(rw[show oX l me p=(p.getD 0 ⟨#[]⟩,0) by
     unfold oX
     rw[decide_eq_false (show ¬1 < p.length by omega)];simp[*]];exact .refl _)
theorem Kn{l:Loc}{me:ByteArray}(h:(lQ l me).2=0):c7 l=true:=by
 unfold lQ at h
 cases hv:c7 l with
 |true=>rfl
 |false=>rw[hv]at h;simp at h
set_option maxHeartbeats 4000000 in
theorem Sz(l:Loc)(hB:iv l)(me:ByteArray):dy Tryz.prog 32 [] [Ag l.cs,C1 (.str me)] (.gE [Ag (PZ l me).1.cs,C1 (.int .i64 (PZ l me).2)]) []:=by
 have c1:=Nb l hB me
 have c2:=Dg l hB
 unfold PZ
 by_cases he:(lQ l me).2=0
 ·rw[if_pos he]
  have hv:=Kn he
  rw[MT hv]at c2
  have c3:=OR (fS me) (bj l).turns (fp (gW hv)).2 81 (.str me) fun e=>P1 e me
  rw[show(lz me l)=⟨(bj l).name,(bj l).turns.map (fS me)⟩from rfl]
  rw[he]at c1
  generalize bj l=T at c2 c3⊢
  generalize T.turns.map (fS me)=M at c3⊢
  generalize (lQ l me).1=q at c1
  refine bd (c:=_) Tryz.func32 rfl rfl rfl (by decide) fun w M0 H Z=>?_
  repeat'(first|refine bH J ?_|(refine al ?_;refine aj th J ?_)|(refine au mix J J ?_;refine ak th J ?_)|(refine ao mix J J ?_;refine ay th J ?_)|refine SOps.nil ?_|refine DOps.nil ?_|refine EOps.nil ?_ rfl rfl|((first|refine aq J J ?_ ?_|refine av J J J ?_ ?_|refine aU J ?_ ?_)<;>intro hb<;>(try simp only[aF]at hb)<;>first|(exfalso;omega)|refine aj th J ?_|refine ak th J ?_|skip)|((first|refine aS c1 [] J J J J J J J J J J ?_|refine aS c2 [] J J J J J J J J J J ?_|refine aS c3 [3] J J J J J J J J J J ?_);refine aj th J ?_))
  all_goals first
   |(exfalso;revert hb;simp;done)
   |(refine aT th Tryz.func32 (.inr ⟨_,rfl⟩) J J J ?_ rfl
     exact .refl _)
 ·rw[if_neg he]
  generalize (lQ l me).1=q at c1
  generalize (lQ l me).2=e at c1 he⊢
  refine bd (c:=_) Tryz.func32 rfl rfl rfl (by decide) fun w M0 H Z=>?_
  repeat'(first|refine bH J ?_|(refine al ?_;refine aj th J ?_)|(refine au mix J J ?_;refine ak th J ?_)|(refine ao mix J J ?_;refine ay th J ?_)|refine SOps.nil ?_|refine DOps.nil ?_|refine EOps.nil ?_ rfl rfl|((first|refine aq J J ?_ ?_|refine av J J J ?_ ?_|refine aU J ?_ ?_)<;>intro hb<;>(try simp only[aF]at hb)<;>first|(exfalso;omega)|refine aj th J ?_|refine ak th J ?_|skip)|(refine aS c1 [] J J J J J J J J J J ?_;refine aj th J ?_))
  all_goals first
   |(exfalso;exact he (by assumption))|(exfalso;exact he (by simpa using hb))
   |(refine aT th Tryz.func32 (.inr ⟨_,rfl⟩) J J J ?_ rfl
     exact .gE (.cons (.agg (.cons (.refl _) (.cons (.c (.nil 3)) .nil))) (.cons (.refl _) .nil)))
end Go.Sy
