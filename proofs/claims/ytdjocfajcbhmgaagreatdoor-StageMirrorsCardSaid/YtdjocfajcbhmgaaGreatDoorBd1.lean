/- Contracts of the reference, bundle Bd1. -/
import Derived.Test.YtdjocfajcbhmgaaGreatDoorBn1
import Derived.Test.YtdjocfajcbhmgaaGreatDoorBl1
import Derived.Test.YtdjocfajcbhmgaaGreatDoorSymZp
import Derived.Test.YtdjocfajcbhmgaaGreatDoorBu2
import Derived.Test.YtdjocfajcbhmgaaGreatDoorBu4
set_option linter.unusedSimpArgs false
set_option linter.unusedVariables false
set_option linter.unusedSectionVars false
namespace Go.Sy
open Go.Proofs
set_option maxRecDepth 100000
attribute [local irreducible] SOps Goes DOps EOps GOps
def ij(l:List Int)(k:Nat)(n:Int):Int:=match l[k]? with
 |some x=>IntKind.i64.wrap ((IntKind.u64.wrap x).tmod (IntKind.u64.wrap n))
 |none=>0
def fQ(l:List Int)(k:Nat):Nat:=if k < l.length then k+1 else k
abbrev mg(l:List Int)(k:Nat):List CT:=[cA l,.int .i64 (k:Int)]
theorem dW(l:List Int)(k:Nat){n:Int}(h0:1≤n)(h1:n≤9223372036854775807):0≤ij l k n∧ij l k n < n:=by
 unfold ij
 cases l[k]? with
 |none=>simp;omega
 |some x=>exact Na h0 h1
theorem fW{l:List Int}{k:Nat}(h:k≤l.length):fQ l k≤l.length:=by unfold fQ;split<;>omega
set_option maxHeartbeats 4000000 in
theorem iQ(l:List Int)(k:Nat)(hk:k≤l.length)(n:Int)(DR:1≤n)(hn:n≤9223372036854775807):dy Tryz.prog 49 [mg l k] [.one (.ptr given 0),C1 (.int .i64 n)] (Rv (.int .i64 (ij l k n))) [mg l (fQ l k)]:=by
 by_cases bo:k < l.length
 ·have hx:(l.map fun r=>[CT.int .i64 r])[k]? =some [.int .i64 l[k]]:=by simp[bo]
  have hv:ij l k n=IntKind.i64.wrap ((IntKind.u64.wrap l[k]).tmod (IntKind.u64.wrap n)):=by unfold ij;rw[aa bo]
  have ha:mg l (fQ l k)=[cA l,.int .i64 ((k:Int)+1)]:=by unfold fQ;rw[if_pos bo];rfl
  rw[hv,ha]
  refine bd (c:=_) Tryz.func49 rfl rfl rfl (by decide) fun w M0 H Z=>?_
  refine yq given 0 J J fun mT=>?_
  simp only[aw]at mT
  repeat'(first|refine bH J ?_|(refine al ?_;refine aj th J ?_)|(refine au mix J J ?_;refine ak th J ?_)|(refine ao mix J J ?_;refine ay th J ?_)|refine SOps.nil ?_|refine DOps.nil ?_|refine EOps.nil ?_ rfl rfl|((first|refine aq J J ?_ ?_|refine av J J J ?_ ?_|refine aU J ?_ ?_)<;>intro hb<;>(try simp only[aF]at hb)<;>first|(exfalso;omega)|refine aj th J ?_|refine ak th J ?_|skip)|refine aT th Tryz.func49 (.inr ⟨_,rfl⟩) J J J ?_ rfl|(refine bO J J J J J J (by omega) ?_;refine aj th J ?_)|((first|refine CN J J J J J J (by omega) ?_|refine fT th J J J J J J J J J k _ (by omega) hx ?_|(refine Rn J J J J J J (by rw[tf (by omega) hn];omega) ?_));refine ak th J ?_))
  all_goals exact .refl _
 ·have hv:ij l k n=0:=by unfold ij;rw[cR (by omega)]
  have ha:fQ l k=k:=by unfold fQ;rw[if_neg bo]
  rw[hv,ha]
  refine bd (c:=_) Tryz.func49 rfl rfl rfl (by decide) fun w M0 H Z=>?_
  refine yq given 0 J J fun mT=>?_
  simp only[aw]at mT
  repeat'(first|refine bH J ?_|(refine al ?_;refine aj th J ?_)|(refine au mix J J ?_;refine ak th J ?_)|(refine ao mix J J ?_;refine ay th J ?_)|refine SOps.nil ?_|refine DOps.nil ?_|refine EOps.nil ?_ rfl rfl|((first|refine aq J J ?_ ?_|refine av J J J ?_ ?_|refine aU J ?_ ?_)<;>intro hb<;>(try simp only[aF]at hb)<;>first|(exfalso;omega)|refine aj th J ?_|refine ak th J ?_|skip)|refine aT th Tryz.func49 (.inr ⟨_,rfl⟩) J J J ?_ rfl)
  all_goals exact .refl _
def yd:List Int:=[1,0,1,2,3,4]
def qG(l:List Int)(k:Nat):Int:=yd.getD (ij l k 6).toNat 0
theorem E6{m:Int}(h:0≤m∧m < 6):(yd.map fun r=>[CT.int .i64 r])[m.toNat]? =some [.int .i64 (yd.getD m.toNat 0)]:=by
 have:m.toNat < 6:=by omega
 have hk:m.toNat < yd.length:=this
 rw[aI,aa hk,aJ,aa hk]
 rfl
theorem uS(l:List Int)(k:Nat):0≤qG l k∧qG l k < 5:=by
 have h:=dW l k (n:=6) (by omega) (by omega)
 unfold qG
 have:(ij l k 6).toNat=0∨(ij l k 6).toNat=1∨(ij l k 6).toNat=2∨(ij l k 6).toNat=3∨(ij l k 6).toNat=4∨(ij l k 6).toNat=5:=by omega
 rcases this with h|h|h|h|h|h<;>rw[h]<;>decide
theorem D4(l:List Int)(k:Nat)(hk:k≤l.length):dy Tryz.prog 108 [mg l k] [.one (.ptr given 0)] (.v (Ag [.int .i64 (qG l k),.str ⟨#[]⟩])) [mg l (fQ l k)]:=by
 have hr:=dW l k (n:=6) (by omega) (by omega)
 have hg:=E6 hr
 refine bd (c:=_) Tryz.func108 rfl rfl rfl (by decide) fun w M0 H Z=>?_
 repeat'(first|refine bH J ?_|(refine al ?_;refine aj th J ?_)|(refine au mix J J ?_;refine ak th J ?_)|(refine ao mix J J ?_;refine ay th J ?_)|refine SOps.nil ?_|refine DOps.nil ?_|refine EOps.nil ?_ rfl rfl|((first|refine aq J J ?_ ?_|refine av J J J ?_ ?_|refine aU J ?_ ?_)<;>intro hb<;>(try simp only[aF]at hb)<;>first|(exfalso;omega)|refine aj th J ?_|refine ak th J ?_|skip)|refine aT th Tryz.func108 (.inr ⟨_,rfl⟩) J J J ?_ rfl|((first|refine aS (iQ l k hk 6 (by omega) (by omega)) [given] J J J J J J J J J J ?_|(refine GB th J J J J J J J J J J (ij l k 6).toNat (by omega) (by show _ < 6;omega) ?_)|refine Dp th _ J J J J hg J J J J J ?_);refine aj th J ?_))
 all_goals exact .refl _
def k7(types:List ByteArray)(l:List Int)(k:Nat):(Int×ByteArray)×Nat:=
 if 0 < types.length then
  if ij l k 4=1 then((5,types.getD (ij l (fQ l k) types.length).toNat ⟨#[]⟩),fQ l (fQ l k))
  else((qG l (fQ l k),⟨#[]⟩),fQ l (fQ l k))
 else((qG l k,⟨#[]⟩),fQ l k)
theorem OV(types:List ByteArray)(ht:types.length≤1000)(l:List Int)(k:Nat)(hk:k≤l.length):
 dy Tryz.prog 109 [mg l k] [.one (.ptr given 0),C1 (bh types)] (.v (Ag [.int .i64 (k7 types l k).1.1,.str (k7 types l k).1.2])) [mg l (k7 types l k).2]:=by
 have yP:=fW hk
 by_cases h0:0 < types.length
 ·have VZ:((types.map fun s=>[CT.str s]).length:Int)=(types.length:Int):=by simp
  have hr:=dW l (fQ l k) (n:=(types.length:Int)) (by omega) (by omega)
  by_cases h1:ij l k 4=1
  ·have hc:k7 types l k=((5,types.getD (ij l (fQ l k) types.length).toNat ⟨#[]⟩),fQ l (fQ l k)):=by unfold k7;rw[if_pos h0,if_pos h1]
   have hx:(types.map fun s=>[CT.str s])[(ij l (fQ l k) types.length).toNat]? =some [.str (types.getD (ij l (fQ l k) types.length).toNat ⟨#[]⟩)]:=by
    have:(ij l (fQ l k) types.length).toNat < types.length:=by omega
    rw[aI,aJ,aa this];rfl
   rw[hc]
   refine bd (c:=_) Tryz.func109 rfl rfl rfl (by decide) fun w M0 H Z=>?_
   repeat'(first|refine bH J ?_|(refine al ?_;refine aj th J ?_)|(refine au mix J J ?_;refine ak th J ?_)|(refine ao mix J J ?_;refine ay th J ?_)|refine SOps.nil ?_|refine DOps.nil ?_|refine EOps.nil ?_ rfl rfl|((first|refine aq J J ?_ ?_|refine av J J J ?_ ?_|refine aU J ?_ ?_)<;>intro hb<;>(try simp only[aF]at hb)<;>first|(exfalso;omega)|refine aj th J ?_|refine ak th J ?_|skip)|refine aT th Tryz.func109 (.inr ⟨_,rfl⟩) J J J ?_ rfl|((first|refine aS (iQ l k hk 4 (by omega) (by omega)) [given] J J J J J J J J J J ?_|refine aS (iQ l (fQ l k) yP ((types.map fun s=>[CT.str s]).length:Int) (by omega) (by omega)) [given] J J J J J J J J J J ?_|(refine ch th J J J J J J J J J (ij l (fQ l k) types.length).toNat _ (by rw[VZ];omega) hx ?_));refine aj th J ?_))
   all_goals exact .refl _
  ·have hc:k7 types l k=((qG l (fQ l k),⟨#[]⟩),fQ l (fQ l k)):=by unfold k7;rw[if_pos h0,if_neg h1]
   rw[hc]
   refine bd (c:=_) Tryz.func109 rfl rfl rfl (by decide) fun w M0 H Z=>?_
   repeat'(first|refine bH J ?_|(refine al ?_;refine aj th J ?_)|(refine au mix J J ?_;refine ak th J ?_)|(refine ao mix J J ?_;refine ay th J ?_)|refine SOps.nil ?_|refine DOps.nil ?_|refine EOps.nil ?_ rfl rfl|((first|refine aq J J ?_ ?_|refine av J J J ?_ ?_|refine aU J ?_ ?_)<;>intro hb<;>(try simp only[aF]at hb)<;>first|(exfalso;omega)|refine aj th J ?_|refine ak th J ?_|skip)|refine aT th Tryz.func109 (.inr ⟨_,rfl⟩) J J J ?_ rfl|((first|refine aS (iQ l k hk 4 (by omega) (by omega)) [given] J J J J J J J J J J ?_|refine aS (D4 l (fQ l k) yP) [given] J J J J J J J J J J ?_);refine aj th J ?_))
   all_goals exact .refl _
 ·have hc:k7 types l k=((qG l k,⟨#[]⟩),fQ l k):=by unfold k7;rw[if_neg h0]
  have h0I:¬(0:Int) < ((types.map fun s=>[CT.str s]).length:Int):=by rw[aw];omega
  rw[hc]
  refine bd (c:=_) Tryz.func109 rfl rfl rfl (by decide) fun w M0 H Z=>?_
  repeat'(first|refine bH J ?_|(refine al ?_;refine aj th J ?_)|(refine au mix J J ?_;refine ak th J ?_)|(refine ao mix J J ?_;refine ay th J ?_)|refine SOps.nil ?_|refine DOps.nil ?_|refine EOps.nil ?_ rfl rfl|((first|refine aq J J ?_ ?_|refine av J J J ?_ ?_|refine aU J ?_ ?_)<;>intro hb<;>(try simp only[aF]at hb)<;>first|(exfalso;omega)|refine aj th J ?_|refine ak th J ?_|skip)|refine aT th Tryz.func109 (.inr ⟨_,rfl⟩) J J J ?_ rfl|(refine aS (D4 l k hk) [given] J J J J J J J J J J ?_;refine aj th J ?_))
  all_goals exact .refl _
end Go.Sy
namespace Go.Sy
open Go.Proofs
set_option maxRecDepth 100000
attribute [local irreducible] SOps Goes DOps EOps GOps
def k8(types:List ByteArray)(l:List Int)(from_ places:Int)(k:Nat):Nat→List bM×Nat
 |0=>([],k)
 |i+1=>((k8 types l from_ places k i).1++[⟨kj.getD ((from_+(i:Int)).tmod 4).toNat ⟨#[]⟩,(k7 types l (k8 types l from_ places k i).2).1.1,(k7 types l (k8 types l from_ places k i).2).1.2,ij l (k7 types l (k8 types l from_ places k i).2).2 places⟩],
   fQ l (k7 types l (k8 types l from_ places k i).2).2)
def u7(types:List ByteArray)(l:List Int)(k:Nat)(places:Int):List bM×Nat:=k8 types l (ij l (fQ l k) 4) places (fQ l (fQ l k)) (1+ij l k 3).toNat
theorem D8{types:List ByteArray}{l:List Int}{k:Nat}(hk:k≤l.length):(k7 types l k).2≤l.length:=by
 unfold k7
 split
 ·split
  ·exact fW (fW hk)
  ·exact fW (fW hk)
 ·exact fW hk
theorem yD{types:List ByteArray}{l:List Int}{f p:Int}{k:Nat}(hk:k≤l.length):∀i,(k8 types l f p k i).2≤l.length
 |0=>hk
 |i+1=>fW (D8 (yD hk i))
theorem ja{types:List ByteArray}{l:List Int}{f p:Int}{k:Nat}:∀i,(k8 types l f p k i).1.length=i
 |0=>rfl
 |i+1=>by rw[k8,aL,ja i];rfl
theorem LK{types:List ByteArray}{l:List Int}{p:Int}{k:Nat}(hk:k≤l.length):(u7 types l k p).2≤l.length:=yD (fW (fW hk)) _
theorem KK{m:Int}(h:0≤m∧m < 4):(kj.map fun s=>[CT.str s])[m.toNat]? =some [.str (kj.getD m.toNat ⟨#[]⟩)]:=by
 have hk:m.toNat < kj.length:=by show m.toNat < 4;omega
 rw[aI,aJ,aa hk]
 rfl
theorem Di{m:Int}(h:0≤m):0≤m.tmod 4∧m.tmod 4 < 4:=⟨vV _ h,pT _ (by omega)⟩
theorem qh{ids:List Nat}{bs M:MM}(h:eT ids M=bs):∀q∈bs,q∈M:=fun q hq=>(dm.1 (h▸hq)).1
set_option maxHeartbeats 8000000 in
theorem O3(types:List ByteArray)(ht:types.length≤1000)(l:List Int)(k:Nat)(hk:k≤l.length)(p:Int)(hp:1≤p)(N1:p≤1000):
 dy Tryz.prog 77 [mg l k] [.one (.ptr given 0),C1 (bh types),C1 (.int .i64 p)] (Rv (kc (u7 types l k p).1)) [mg l (u7 types l k p).2]:=by
 have yP:=fW hk
 have AG:=fW yP
 have FR:=dW l k (n:=3) (by omega) (by omega)
 have AD:=dW l (fQ l k) (n:=4) (by omega) (by omega)
 refine bd (c:=_) Tryz.func77 rfl rfl rfl (by decide) fun w M0 H Z=>?_
 repeat'(first|refine bH J ?_|(refine al ?_;refine aj th J ?_)|(refine au mix J J ?_;refine ak th J ?_)|(refine ao mix J J ?_;refine ay th J ?_)|refine SOps.nil ?_|refine DOps.nil ?_|refine EOps.nil ?_ rfl rfl|((first|refine aq J J ?_ ?_|refine av J J J ?_ ?_|refine aU J ?_ ?_)<;>intro hb<;>(try simp only[aF]at hb)<;>first|(exfalso;omega)|refine aj th J ?_|refine ak th J ?_|skip)|((first|refine aS (iQ l k hk 3 (by omega) (by omega)) [given] J J J J J J J J J J ?_|refine aS (iQ l (fQ l k) yP 4 (by omega) (by omega)) [given] J J J J J J J J J J ?_|refine bO J J J J J J (by omega) ?_);refine aj th J ?_))
 obtain⟨fr,iA⟩:∃fr,fr=ij l (fQ l k) 4:=⟨_,rfl⟩
 obtain⟨k0,Mo⟩:∃k0,k0=fQ l (fQ l k):=⟨_,rfl⟩
 obtain⟨kT,Om⟩:∃kT:Nat,kT=(1+ij l k 3).toNat:=⟨_,rfl⟩
 have oS:u7 types l k p=k8 types l fr p k0 kT:=by rw[iA,Mo,Om];rfl
 rw[oS]
 rw[←iA]at AD⊢
 rw[←Mo]at AG⊢
 have Px:(1+ij l k 3:Int)=(kT:Int):=by omega
 have Wl:kT≤3:=by omega
 refine qy 7 50 34 4 J J J ?_
 refine bE (fun i:Nat=>i≤kT)
  (fun i=>[(0,.v (.one (.ptr given 0))),(1,.v (C1 (bh types))),(2,.v (C1 (.int .i64 p))),(7,.v (.one (.own 50))),(8,.v (C1 (.int .i64 (kT:Int)))),(9,.v (C1 (.int .i64 fr))),(10,.v (C1 (.int .i64 (i:Int))))])
  (fun i=>[(given,.box ((mg l (k8 types l fr p k0 i).2).map SC.c)),(50,.arr false 34 4 ((k8 types l fr p k0 i).1.map bM.cs))])
  (fun i=>kT - i) 0 (aM _)
  (fun a w h=>h.sub (by exact⟨⟨_,rfl,.refl _⟩,⟨_,rfl,.refl _⟩,⟨_,rfl,.refl _⟩,⟨_,rfl,.refl _⟩,⟨_,rfl,aC Px⟩,⟨_,rfl,.refl _⟩,⟨_,rfl,aC J⟩,trivial⟩) (by exact⟨⟨_,rfl,.refl _⟩,⟨_,rfl,dd J⟩,trivial⟩) J J J) (fun i hi ih=>?_)
 have hle:=yD (types:=types) (f:=fr) (p:=p) AG i
 have vi:=D8 (types:=types) hle
 have Fm:=ja (types:=types) (l:=l) (f:=fr) (p:=p) (k:=k0) i
 by_cases bo:i < kT
 ·have VX:=Di (m:=fr+(i:Int)) (by omega)
  repeat'(first|(refine DZ 16 [given] mix J J J J J J J J ?_;refine jO th J ?_)|refine bH J ?_|(refine al ?_;refine aj th J ?_)|(refine au mix J J ?_;refine ak th J ?_)|(refine ao mix J J ?_;refine ay th J ?_)|refine SOps.nil ?_|refine DOps.nil ?_|refine EOps.nil ?_ rfl rfl|((first|refine aq J J ?_ ?_|refine av J J J ?_ ?_|refine aU J ?_ ?_)<;>intro hb<;>(try simp only[aF]at hb)<;>first|(exfalso;omega)|refine aj th J ?_|refine ak th J ?_|skip)|((first|refine GR HJ J J J J J J J ?_|refine L6 J J J J J J (by omega) ?_|refine L4 J J J J J J (by decide) ?_|refine L5 th J J J J J J J J J ((fr+(i:Int)).tmod 4).toNat _ (by omega) (KK VX) ?_|refine Du (OV types ht l _ hle) [given] J J J J J J J J J J J (qh (ids:=[given]) J) ?_|refine Du (iQ l _ vi p (by omega) (by omega)) [given] J J J J J J J J J J J (qh (ids:=[given]) J) ?_|refine GQ th J J J J J J J J J J J (.refl _) ?_|refine GQ th J J J J J J J J J J J J (.refl _) ?_);refine jO th J ?_)|refine GOps.nil ?_|(refine jv th J J J J J J J J J J J J J J (by constructor<;>simp[Fm]<;>omega) ?_;refine aj th J ?_)|(refine bO J J J J J J (by omega) ?_;refine aj th J ?_))
  have cS:=ih (i+1) bo (by omega)
  exact bJ (by exact⟨⟨_,rfl,.refl _⟩,⟨_,rfl,.refl _⟩,⟨_,rfl,.refl _⟩,⟨_,rfl,.refl _⟩,⟨_,rfl,.refl _⟩,⟨_,rfl,.refl _⟩,⟨_,rfl,aC (by omega)⟩,trivial⟩)
   (by exact⟨⟨_,rfl,.refl _⟩,⟨_,rfl,dd (by rw[k8,a6];rfl)⟩,trivial⟩) J J J cS
 ·have Oh:i=kT:=by omega
  subst Oh
  repeat'(first|refine bH J ?_|(refine al ?_;refine aj th J ?_)|(refine au mix J J ?_;refine ak th J ?_)|(refine ao mix J J ?_;refine ay th J ?_)|refine SOps.nil ?_|refine DOps.nil ?_|refine EOps.nil ?_ rfl rfl|((first|refine aq J J ?_ ?_|refine av J J J ?_ ?_|refine aU J ?_ ?_)<;>intro hb<;>(try simp only[aF]at hb)<;>first|(exfalso;omega)|refine aj th J ?_|refine ak th J ?_|skip))
  refine dZ 50 J J ?_
  refine aT th Tryz.func77 (.inr ⟨_,rfl⟩) J J J ?_ rfl
  exact .refl _
end Go.Sy
namespace Go.Sy
open Go.Proofs
set_option maxRecDepth 100000
attribute [local irreducible] SOps Goes DOps EOps GOps
def e8(types:List ByteArray)(l:List Int)(n qg:Int)(k:Nat):Nat→List fe×Nat
 |0=>([],k)
 |i+1=>
  if ij l (e8 types l n qg k i).2 5=0 then((e8 types l n qg k i).1++[mP],fQ l (e8 types l n qg k i).2)
  else((e8 types l n qg k i).1++[⟨1+(ij l (e8 types l n qg k i).2 5).tmod 2,po.getD (ij l (fQ l (e8 types l n qg k i).2) qg).toNat ⟨#[]⟩,(u7 types l (fQ l (fQ l (e8 types l n qg k i).2)) n).1⟩],
   (u7 types l (fQ l (fQ l (e8 types l n qg k i).2)) n).2)
def vE(name:ByteArray)(types:List ByteArray)(l:List Int)(k:Nat):Loc×Nat:=
 (⟨name,(e8 types l (1+ij l k 6) (1+ij l (fQ l k) 2) (fQ l (fQ l k)) (1+ij l k 6).toNat).1⟩,(e8 types l (1+ij l k 6) (1+ij l (fQ l k) 2) (fQ l (fQ l k)) (1+ij l k 6).toNat).2)
theorem Dh{types:List ByteArray}{l:List Int}{n q:Int}{k:Nat}(hk:k≤l.length):∀i,(e8 types l n q k i).2≤l.length
 |0=>hk
 |i+1=>by
  have ih:=Dh (types:=types) (n:=n) (q:=q) hk i
  rw[e8]
  split
  ·exact fW ih
  ·exact LK (fW (fW ih))
theorem tp{types:List ByteArray}{l:List Int}{n q:Int}{k:Nat}:∀i,(e8 types l n q k i).1.length=i
 |0=>rfl
 |i+1=>by
  rw[e8]
  split<;>simp[tp i]
theorem GG{m:Int}(h:0≤m∧m < 5):(po.map fun s=>[CT.str s])[m.toNat]? =some [.str (po.getD m.toNat ⟨#[]⟩)]:=by
 have hk:m.toNat < po.length:=by show m.toNat < 5;omega
 rw[aI,aJ,aa hk]
 rfl
theorem BG:∀m:Int,0≤m→m < 5→bZ (po.getD m.toNat ⟨#[]⟩)=true:=fun m h0 h5=>by
 have:m.toNat=0∨m.toNat=1∨m.toNat=2∨m.toNat=3∨m.toNat=4:=by omega
 rcases this with h|h|h|h|h<;>rw[h]<;>decide
theorem E5:∀m:Int,0≤m→m < 4→bZ (kj.getD m.toNat ⟨#[]⟩)=true:=fun m h0 h5=>by
 have:m.toNat=0∨m.toNat=1∨m.toNat=2∨m.toNat=3:=by omega
 rcases this with h|h|h|h<;>rw[h]<;>decide
theorem KJ:∀a b:Nat,a < 4→b < 4→kj.getD a ⟨#[]⟩=kj.getD b ⟨#[]⟩→a=b:=by
 intro a b ha hb h
 have h1:a=0∨a=1∨a=2∨a=3:=by omega
 have h2:b=0∨b=1∨b=2∨b=3:=by omega
 rcases h1 with rfl|rfl|rfl|rfl<;>rcases h2 with rfl|rfl|rfl|rfl<;>first|rfl|(exfalso;revert h;decide)
def qQ(types:List ByteArray):Prop:=∀t∈types,y1 t=true∧t.size≤1000
theorem LA{types:List ByteArray}(ht:qQ types)(hl:types.length≤1000)(l:List Int)(k:Nat):uV (k7 types l k).1.1 (k7 types l k).1.2=true∧(k7 types l k).1.2.size≤1000:=by
 have hd:∀k,uV (qG l k) ⟨#[]⟩=true:=fun k=>by
  have:=uS l k
  rw[xn _ this.1 this.2];rfl
 unfold k7
 split
 ·rename_i h0
  split
  ·have hr:=dW l (fQ l k) (n:=(types.length:Int)) (by omega) (by omega)
   have hk:(ij l (fQ l k) types.length).toNat < types.length:=by omega
   have hm:types.getD (ij l (fQ l k) types.length).toNat ⟨#[]⟩∈types:=by
    rw[aJ,aa hk]
    exact az hk
   exact⟨by rw[xo];exact(ht _ hm).1,(ht _ hm).2⟩
  ·exact⟨hd _,aM _⟩
 ·exact⟨hd _,aM _⟩
theorem va{types:List ByteArray}{l:List Int}{f p:Int}{k:Nat}:∀(i j:Nat),j < i→((k8 types l f p k i).1[j]?).map bM.label=some (kj.getD ((f+(j:Int)).tmod 4).toNat ⟨#[]⟩)
 |0,j,h=>by omega
 |i+1,j,h=>by
  rw[k8]
  by_cases hj:j < i
  ·rw[aG (by rw[ja];exact hj)]
   exact va i j hj
  ·have:j=i:=by omega
   subst this
   rw[aO (by rw[ja];omega),ja]
   simp
theorem Bf{types:List ByteArray}(ht:qQ types)(hl:types.length≤1000){l:List Int}{f p:Int}{k:Nat}(hf:0≤f)(hp:1≤p∧p≤1000):∀i,∀a∈(k8 types l f p k i).1,nX p a=true∧a.name.size≤1000
 |0,a,h=>by cases h
 |i+1,a,h=>by
  rw[k8]at h
  rcases aQ.1 h with h|h
  ·exact Bf ht hl hf hp i a h
  ·rw[aH]at h
   subst h
   have h4:=Di (m:=f+(i:Int)) (by omega)
   have hc:=LA ht hl l (k8 types l f p k i).2
   have hn:=dW l (k7 types l (k8 types l f p k i).2).2 (n:=p) hp.1 (by omega)
   exact⟨by unfold nX;simp only;rw[E5 _ h4.1 h4.2,hc.1,decide_eq_true hn.1,decide_eq_true hn.2];rfl,hc.2⟩
theorem CZ{types:List ByteArray}{l:List Int}{f p:Int}{k:Nat}(hf:0≤f∧f < 4){i:Nat}(hi:i≤4):((k8 types l f p k i).1.map bM.label).Nodup:=by
 rw[bA,bm]
 intro a b ha hb vN e
 simp only[aw,ja]at ha hb
 have h1:=va (types:=types) (l:=l) (f:=f) (p:=p) (k:=k) i a ha
 have h2:=va (types:=types) (l:=l) (f:=f) (p:=p) (k:=k) i b hb
 rw[←aI,aa (by simpa[ja]using ha)]at h1
 rw[←aI,aa (by simpa[ja]using hb)]at h2
 injection h1 with h1
 injection h2 with h2
 rw[h1,h2]at e
 have q1:=Di (m:=f+(a:Int)) (by omega)
 have q2:=Di (m:=f+(b:Int)) (by omega)
 have:=KJ _ _ (by omega) (by omega) e
 have t1:(f+(a:Int)).tmod 4=(f+a) % 4:=Int.tmod_eq_emod_of_nonneg (by omega)
 have t2:(f+(b:Int)).tmod 4=(f+b) % 4:=Int.tmod_eq_emod_of_nonneg (by omega)
 omega
theorem LJ{types:List ByteArray}(ht:qQ types)(hl:types.length≤1000)(l:List Int)(k:Nat){p:Int}(hp:1≤p∧p≤1000):eW p (u7 types l k p).1=true∧∀a∈(u7 types l k p).1,a.name.size≤1000:=by
 have FR:=dW l k (n:=3) (by omega) (by omega)
 have AD:=dW l (fQ l k) (n:=4) (by omega) (by omega)
 have ha:=Bf (l:=l) (k:=fQ l (fQ l k)) ht hl AD.1 hp (1+ij l k 3).toNat
 have hn:=CZ (types:=types) (l:=l) (k:=fQ l (fQ l k)) (p:=p) AD (i:=(1+ij l k 3).toNat) (by omega)
 refine⟨?_,fun a h=>(ha a h).2⟩
 unfold eW u7
 rw[ja,decide_eq_true (show 1≤(1+ij l k 3).toNat by omega),decide_eq_true (show(1+ij l k 3).toNat≤6 by omega),decide_eq_true hn,bT,bT,gp,aV]
 exact fun a h=>(ha a h).1
theorem xG{types:List ByteArray}(ht:qQ types)(hl:types.length≤1000){l:List Int}{n q:Int}{k:Nat}(hn:1≤n∧n≤1000)(hq:1≤q∧q≤2):∀i,∀t∈(e8 types l n q k i).1,gd n t=true∧∀a∈t.aP,a.name.size≤1000
 |0,t,h=>by cases h
 |i+1,t,h=>by
  rw[e8]at h
  split at h
  ·rcases aQ.1 h with h|h
   ·exact xG ht hl hn hq i t h
   ·rw[aH]at h;subst h
    exact⟨by rw[sU J];rfl,fun a ha=>by cases ha⟩
  ·rename_i cj
   rcases aQ.1 h with h|h
   ·exact xG ht hl hn hq i t h
   ·rw[aH]at h;subst h
    have S4:=dW l (e8 types l n q k i).2 (n:=5) (by omega) (by omega)
    have KU:=dW l (fQ l (e8 types l n q k i).2) (n:=q) (by omega) (by omega)
    have Ib:0≤(ij l (e8 types l n q k i).2 5).tmod 2∧(ij l (e8 types l n q k i).2 5).tmod 2 < 2:=⟨vV _ S4.1,pT _ (by omega)⟩
    have ha:=LJ ht hl l (fQ l (fQ l (e8 types l n q k i).2)) hn
    refine⟨?_,ha.2⟩
    rw[xF (by simp only;omega) (by simp only;omega)]
    simp only
    rw[BG _ KU.1 (by omega),ha.1];rfl
theorem KH{name:ByteArray}{types:List ByteArray}(ht:qQ types)(hl:types.length≤1000)(l:List Int)(k:Nat):c7 (vE name types l k).1=true∧iv (vE name types l k).1∧(vE name types l k).1.turns.length≤6:=by
 have FR:=dW l k (n:=6) (by omega) (by omega)
 have AD:=dW l (fQ l k) (n:=2) (by omega) (by omega)
 have hlen:(vE name types l k).1.turns.length=(1+ij l k 6).toNat:=tp _
 have hI:((1+ij l k 6).toNat:Int)=1+ij l k 6:=by omega
 have fP:=xG (l:=l) (k:=fQ l (fQ l k)) ht hl (n:=1+ij l k 6) (q:=1+ij l (fQ l k) 2) (by omega) (by omega) (1+ij l k 6).toNat
 refine⟨?_,fun t h a ha=>dN ((fP t h).2 a ha) (by decide),by omega⟩
 rw[uu,hlen,hI,decide_eq_true (show 1≤(1+ij l k 6).toNat by omega),decide_eq_true (show(1+ij l k 6).toNat≤40 by omega),bT,bT]
 exact aV.2 fun t h=>(fP t h).1
end Go.Sy
namespace Go.Sy
open Go.Proofs
set_option maxRecDepth 100000
attribute [local irreducible] SOps Goes DOps EOps
end Go.Sy
namespace Go.Sy
open Go.Proofs
set_option maxRecDepth 100000
attribute [local irreducible] SOps Goes DOps EOps
end Go.Sy
