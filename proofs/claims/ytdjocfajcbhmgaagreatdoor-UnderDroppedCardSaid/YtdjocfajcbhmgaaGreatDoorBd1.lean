/- Contracts of the reference, bundle Bd1. -/
import Derived.Test.YtdjocfajcbhmgaaGreatDoorAu
import Derived.Test.YtdjocfajcbhmgaaGreatDoorZ1
import Derived.Test.YtdjocfajcbhmgaaGreatDoorBl1
import Derived.Test.YtdjocfajcbhmgaaGreatDoorSymZp
import Derived.Test.YtdjocfajcbhmgaaGreatDoorBu2
import Derived.Test.YtdjocfajcbhmgaaGreatDoorZ12
set_option maxHeartbeats 64000000
set_option linter.unusedSimpArgs false
set_option linter.unusedVariables false
set_option linter.unusedSectionVars false
namespace Go.Sy
open Go.Proofs
set_option maxRecDepth 100000
attribute [local irreducible] SOps Goes DOps EOps GOps
def iV(l:List Int)(k:Nat)(n:Int):Int:=match l[k]? with
 |some x=>IntKind.i64.wrap ((IntKind.u64.wrap x).tmod (IntKind.u64.wrap n))
 |none=>0
def ic(l:List Int)(k:Nat):Nat:=if k < l.length then k+1 else k
abbrev kO(l:List Int)(k:Nat):List CT:=[ch l,.int .i64 (k:Int)]
theorem ff(l:List Int)(k:Nat){n:Int}(h0:1≤n)(h1:n≤9223372036854775807):0≤iV l k n∧iV l k n < n:=by
 unfold iV
 cases l[k]? with
 |none=>simp;omega
 |some x=>exact Rc h0 h1
theorem gU{l:List Int}{k:Nat}(h:k≤l.length):ic l k≤l.length:=by unfold ic;split<;>omega
theorem jw(l:List Int)(k:Nat)(hk:k≤l.length)(n:Int)(Ql:1≤n)(hn:n≤9223372036854775807):er Tryz.prog 49 [kO l k] [.one (.ptr given 0),C1 (.int .i64 n)] (Rv (.int .i64 (iV l k n))) [kO l (ic l k)]:=by
 by_cases bj:k < l.length
 ·have hx:(l.map fun r=>[CT.int .i64 r])[k]? =some [.int .i64 l[k]]:=by simp[bj]
  have hv:iV l k n=IntKind.i64.wrap ((IntKind.u64.wrap l[k]).tmod (IntKind.u64.wrap n)):=by unfold iV;rw[aa bj]
  have ha:kO l (ic l k)=[ch l,.int .i64 ((k:Int)+1)]:=by unfold ic;rw[if_pos bj];rfl
  rw[hv,ha]
  refine bn (c:=_) Tryz.func49 rfl rfl rfl (by decide) fun w M0 H Z=>?_
  refine Bj given 0 J J fun nw=>?_
  simp only[ak]at nw
  repeat'(first|refine aA ?_|(refine aB ?_ ?_<;>first|exact aD|(refine aE ?_;intro hb))|refine aZ th Tryz.func49 (.inr ⟨_,rfl⟩) J J J ?_ rfl|(refine bH J J J J J J (by omega) ?_;refine ao th J ?_)|((first|refine FN J J J J J J (by omega) ?_|refine qx th J J J J J J J J J k _ (by omega) hx ?_|(refine Vb J J J J J J (by rw[ot (by omega) hn];omega) ?_));refine dP th J ?_))
  all_goals exact .refl _
 ·have hv:iV l k n=0:=by unfold iV;rw[bR (by omega)]
  have ha:ic l k=k:=by unfold ic;rw[if_neg bj]
  rw[hv,ha]
  refine bn (c:=_) Tryz.func49 rfl rfl rfl (by decide) fun w M0 H Z=>?_
  refine Bj given 0 J J fun nw=>?_
  simp only[ak]at nw
  repeat'(first|refine aA ?_|(refine aB ?_ ?_<;>first|exact aD|(refine aE ?_;intro hb))|refine aZ th Tryz.func49 (.inr ⟨_,rfl⟩) J J J ?_ rfl)
  all_goals exact .refl _
def AV:List Int:=[1,0,1,2,3,4]
def so(l:List Int)(k:Nat):Int:=AV.getD (iV l k 6).toNat 0
theorem Ih{m:Int}(h:0≤m∧m < 6):(AV.map fun r=>[CT.int .i64 r])[m.toNat]? =some [.int .i64 (AV.getD m.toNat 0)]:=by
 have:m.toNat < 6:=by omega
 have hk:m.toNat < AV.length:=this
 rw[az,aa hk,aG,aa hk]
 rfl
theorem xw(l:List Int)(k:Nat):0≤so l k∧so l k < 5:=by
 have h:=ff l k (n:=6) (by omega) (by omega)
 unfold so
 have:(iV l k 6).toNat=0∨(iV l k 6).toNat=1∨(iV l k 6).toNat=2∨(iV l k 6).toNat=3∨(iV l k 6).toNat=4∨(iV l k 6).toNat=5:=by omega
 rcases this with h|h|h|h|h|h<;>rw[h]<;>decide
theorem G7(l:List Int)(k:Nat)(hk:k≤l.length):er Tryz.prog 108 [kO l k] [.one (.ptr given 0)] (.v (Ag [.int .i64 (so l k),.str ⟨#[]⟩])) [kO l (ic l k)]:=by
 have hr:=ff l k (n:=6) (by omega) (by omega)
 have hg:=Ih hr
 refine bn (c:=_) Tryz.func108 rfl rfl rfl (by decide) fun w M0 H Z=>?_
 repeat'(first|refine aA ?_|(refine aB ?_ ?_<;>first|exact aD|(refine aE ?_;intro hb))|refine aZ th Tryz.func108 (.inr ⟨_,rfl⟩) J J J ?_ rfl|((first|refine aR (jw l k hk 6 (by omega) (by omega)) [given] J J J J J J J J J J ?_|(refine QX th J J J J J J J J J J (iV l k 6).toNat (by omega) (by show _ < 6;omega) ?_)|refine Nw th _ J J J J hg J J J J J ?_);refine ao th J ?_))
 all_goals exact .refl _
def lO(types:List ByteArray)(l:List Int)(k:Nat):(Int×ByteArray)×Nat:=
 if 0 < types.length then
  if iV l k 4=1 then((5,types.getD (iV l (ic l k) types.length).toNat ⟨#[]⟩),ic l (ic l k))
  else((so l (ic l k),⟨#[]⟩),ic l (ic l k))
 else((so l k,⟨#[]⟩),ic l k)
theorem SN(types:List ByteArray)(ht:types.length≤1000)(l:List Int)(k:Nat)(hk:k≤l.length):
 er Tryz.prog 109 [kO l k] [.one (.ptr given 0),C1 (bL types)] (.v (Ag [.int .i64 (lO types l k).1.1,.str (lO types l k).1.2])) [kO l (lO types l k).2]:=by
 have IA:=gU hk
 by_cases h0:0 < types.length
 ·have Zs:((types.map fun s=>[CT.str s]).length:Int)=(types.length:Int):=by simp
  have hr:=ff l (ic l k) (n:=(types.length:Int)) (by omega) (by omega)
  by_cases h1:iV l k 4=1
  ·have hc:lO types l k=((5,types.getD (iV l (ic l k) types.length).toNat ⟨#[]⟩),ic l (ic l k)):=by unfold lO;rw[if_pos h0,if_pos h1]
   have hx:(types.map fun s=>[CT.str s])[(iV l (ic l k) types.length).toNat]? =some [.str (types.getD (iV l (ic l k) types.length).toNat ⟨#[]⟩)]:=by
    have:(iV l (ic l k) types.length).toNat < types.length:=by omega
    rw[az,aG,aa this];rfl
   rw[hc]
   refine bn (c:=_) Tryz.func109 rfl rfl rfl (by decide) fun w M0 H Z=>?_
   repeat'(first|refine aA ?_|(refine aB ?_ ?_<;>first|exact aD|(refine aE ?_;intro hb))|refine aZ th Tryz.func109 (.inr ⟨_,rfl⟩) J J J ?_ rfl|((first|refine aR (jw l k hk 4 (by omega) (by omega)) [given] J J J J J J J J J J ?_|refine aR (jw l (ic l k) IA ((types.map fun s=>[CT.str s]).length:Int) (by omega) (by omega)) [given] J J J J J J J J J J ?_|(refine bO th J J J J J J J J J (iV l (ic l k) types.length).toNat _ (by rw[Zs];omega) hx ?_));refine ao th J ?_))
   all_goals exact .refl _
  ·have hc:lO types l k=((so l (ic l k),⟨#[]⟩),ic l (ic l k)):=by unfold lO;rw[if_pos h0,if_neg h1]
   rw[hc]
   refine bn (c:=_) Tryz.func109 rfl rfl rfl (by decide) fun w M0 H Z=>?_
   repeat'(first|refine aA ?_|(refine aB ?_ ?_<;>first|exact aD|(refine aE ?_;intro hb))|refine aZ th Tryz.func109 (.inr ⟨_,rfl⟩) J J J ?_ rfl|((first|refine aR (jw l k hk 4 (by omega) (by omega)) [given] J J J J J J J J J J ?_|refine aR (G7 l (ic l k) IA) [given] J J J J J J J J J J ?_);refine ao th J ?_))
   all_goals exact .refl _
 ·have hc:lO types l k=((so l k,⟨#[]⟩),ic l k):=by unfold lO;rw[if_neg h0]
  have h0I:¬(0:Int) < ((types.map fun s=>[CT.str s]).length:Int):=by rw[ak];omega
  rw[hc]
  refine bn (c:=_) Tryz.func109 rfl rfl rfl (by decide) fun w M0 H Z=>?_
  repeat'(first|refine aA ?_|(refine aB ?_ ?_<;>first|exact aD|(refine aE ?_;intro hb))|refine aZ th Tryz.func109 (.inr ⟨_,rfl⟩) J J J ?_ rfl|(refine aR (G7 l k hk) [given] J J J J J J J J J J ?_;refine ao th J ?_))
  all_goals exact .refl _
end Go.Sy
namespace Go.Sy
open Go.Proofs
set_option maxRecDepth 100000
attribute [local irreducible] SOps Goes DOps EOps GOps
def lQ(types:List ByteArray)(l:List Int)(from_ places:Int)(k:Nat):Nat→List bD×Nat
 |0=>([],k)
 |i+1=>((lQ types l from_ places k i).1++[⟨kj.getD ((from_+(i:Int)).tmod 4).toNat ⟨#[]⟩,(lO types l (lQ types l from_ places k i).2).1.1,(lO types l (lQ types l from_ places k i).2).1.2,iV l (lO types l (lQ types l from_ places k i).2).2 places⟩],
   ic l (lO types l (lQ types l from_ places k i).2).2)
def Bw(types:List ByteArray)(l:List Int)(k:Nat)(places:Int):List bD×Nat:=lQ types l (iV l (ic l k) 4) places (ic l (ic l k)) (1+iV l k 3).toNat
theorem Hd{types:List ByteArray}{l:List Int}{k:Nat}(hk:k≤l.length):(lO types l k).2≤l.length:=by
 unfold lO
 split
 ·split
  ·exact gU (gU hk)
  ·exact gU (gU hk)
 ·exact gU hk
theorem Bx{types:List ByteArray}{l:List Int}{f p:Int}{k:Nat}(hk:k≤l.length):∀i,(lQ types l f p k i).2≤l.length
 |0=>hk
 |i+1=>gU (Hd (Bx hk i))
theorem jI{types:List ByteArray}{l:List Int}{f p:Int}{k:Nat}:∀i,(lQ types l f p k i).1.length=i
 |0=>rfl
 |i+1=>by rw[lQ,au,jI i];rfl
theorem PH{types:List ByteArray}{l:List Int}{p:Int}{k:Nat}(hk:k≤l.length):(Bw types l k p).2≤l.length:=Bx (gU (gU hk)) _
theorem Oo{m:Int}(h:0≤m∧m < 4):(kj.map fun s=>[CT.str s])[m.toNat]? =some [.str (kj.getD m.toNat ⟨#[]⟩)]:=by
 have hk:m.toNat < kj.length:=by show m.toNat < 4;omega
 rw[az,aG,aa hk]
 rfl
theorem Gb{m:Int}(h:0≤m):0≤m.tmod 4∧m.tmod 4 < 4:=⟨Int.tmod_nonneg _ h,Int.tmod_lt_of_pos _ (by omega)⟩
theorem we{ids:List Nat}{bs M:MM}(h:fO ids M=bs):∀q∈bs,q∈M:=fun q hq=>(eR.1 (h▸hq)).1
theorem S4(types:List ByteArray)(ht:types.length≤1000)(l:List Int)(k:Nat)(hk:k≤l.length)(p:Int)(hp:1≤p)(Lo:p≤1000):
 er Tryz.prog 77 [kO l k] [.one (.ptr given 0),C1 (bL types),C1 (.int .i64 p)] (Rv (fM (Bw types l k p).1)) [kO l (Bw types l k p).2]:=by
 have IA:=gU hk
 have Tx:=gU IA
 have GO:=ff l k (n:=3) (by omega) (by omega)
 have Is:=ff l (ic l k) (n:=4) (by omega) (by omega)
 refine bn (c:=_) Tryz.func77 rfl rfl rfl (by decide) fun w M0 H Z=>?_
 repeat'(first|refine aA ?_|(refine aB ?_ ?_<;>first|exact aD|(refine aE ?_;intro hb))|((first|refine aR (jw l k hk 3 (by omega) (by omega)) [given] J J J J J J J J J J ?_|refine aR (jw l (ic l k) IA 4 (by omega) (by omega)) [given] J J J J J J J J J J ?_|refine bH J J J J J J (by omega) ?_);refine ao th J ?_))
 obtain⟨fr,gb⟩:∃fr,fr=iV l (ic l k) 4:=⟨_,rfl⟩
 obtain⟨k0,M5⟩:∃k0,k0=ic l (ic l k):=⟨_,rfl⟩
 obtain⟨oo,Sb⟩:∃oo:Nat,oo=(1+iV l k 3).toNat:=⟨_,rfl⟩
 have qg:Bw types l k p=lQ types l fr p k0 oo:=by rw[gb,M5,Sb];rfl
 rw[qg]
 rw[←gb]at Is⊢
 rw[←M5]at Tx⊢
 have Qw:(1+iV l k 3:Int)=(oo:Int):=by omega
 have Xr:oo≤3:=by omega
 refine pX 7 50 34 4 J J J ?_
 refine bE (fun i:Nat=>i≤oo)
  (fun i=>[(0,.v (.one (.ptr given 0))),(1,.v (C1 (bL types))),(2,.v (C1 (.int .i64 p))),(7,.v (.one (.own 50))),(8,.v (C1 (.int .i64 (oo:Int)))),(9,.v (C1 (.int .i64 fr))),(10,.v (C1 (.int .i64 (i:Int))))])
  (fun i=>[(given,.box ((kO l (lQ types l fr p k0 i).2).map SC.c)),(50,.arr false 34 4 ((lQ types l fr p k0 i).1.map bD.cs))])
  (fun i=>oo - i) 0 (aF _)
  (aH (h1:=by exact⟨⟨_,rfl,.refl _⟩,⟨_,rfl,.refl _⟩,⟨_,rfl,.refl _⟩,⟨_,rfl,.refl _⟩,⟨_,rfl,eM Qw⟩,⟨_,rfl,.refl _⟩,⟨_,rfl,eM J⟩,trivial⟩)) (fun i hi ih=>?_)
 have hle:=Bx (types:=types) (f:=fr) (p:=p) Tx i
 have sC:=Hd (types:=types) hle
 have BI:=jI (types:=types) (l:=l) (f:=fr) (p:=p) (k:=k0) i
 by_cases bj:i < oo
 ·have Zo:=Gb (m:=fr+(i:Int)) (by omega)
  repeat'(first|(refine GZ 16 [given] mix J J J J J J J J ?_;refine lA th J ?_)|refine aA ?_|(refine aB ?_ ?_<;>first|exact aD|(refine aE ?_;intro hb))|((first|refine Q5 KX J J J J J J J ?_|refine P6 J J J J J J (by omega) ?_|refine T1 J J J J J J (by decide) ?_|refine J6 th J J J J J J J J J ((fr+(i:Int)).tmod 4).toNat _ (by omega) (Oo Zo) ?_|refine J7 (SN types ht l _ hle) [given] J J J J J J J J J J J (we (ids:=[given]) J) ?_|refine J7 (jw l _ sC p (by omega) (by omega)) [given] J J J J J J J J J J J (we (ids:=[given]) J) ?_|refine J5 th J J J J J J J J J J J (.refl _) ?_|refine J5 th J J J J J J J J J J J J (.refl _) ?_);refine lA th J ?_)|refine GOps.nil ?_|(refine k8 th J J J J J J J J J J J J J J (by constructor<;>simp[BI]<;>omega) ?_;refine ao th J ?_)|(refine bH J J J J J J (by omega) ?_;refine ao th J ?_))
  have cT:=ih (i+1) bj (by omega)
  exact aS (h2:=by exact⟨⟨_,rfl,.refl _⟩,⟨_,rfl,fE (by rw[lQ,bg];rfl)⟩,trivial⟩) cT
 ·have OO:i=oo:=by omega
  subst OO
  repeat'(first|refine aA ?_|(refine aB ?_ ?_<;>first|exact aD|(refine aE ?_;intro hb))|fail)
  refine dY 50 J J ?_
  refine aZ th Tryz.func77 (.inr ⟨_,rfl⟩) J J J ?_ rfl
  exact .refl _
end Go.Sy
namespace Go.Sy
open Go.Proofs
set_option maxRecDepth 100000
attribute [local irreducible] SOps Goes DOps EOps GOps
theorem Ig:∀m:Int,0≤m→m < 4→cg (kj.getD m.toNat ⟨#[]⟩)=true:=fun m h0 h5=>by
 have:m.toNat=0∨m.toNat=1∨m.toNat=2∨m.toNat=3:=by omega
 rcases this with h|h|h|h<;>rw[h]<;>decide
theorem On:∀a b:Nat,a < 4→b < 4→kj.getD a ⟨#[]⟩=kj.getD b ⟨#[]⟩→a=b:=by
 intro a b ha hb h
 have h1:a=0∨a=1∨a=2∨a=3:=by omega
 have h2:b=0∨b=1∨b=2∨b=3:=by omega
 rcases h1 with rfl|rfl|rfl|rfl<;>rcases h2 with rfl|rfl|rfl|rfl<;>first|rfl|(exfalso;revert h;decide)
def sx(types:List ByteArray):Prop:=∀t∈types,BQ t=true∧t.size≤1000
theorem Py{types:List ByteArray}(ht:sx types)(hl:types.length≤1000)(l:List Int)(k:Nat):xC (lO types l k).1.1 (lO types l k).1.2=true∧(lO types l k).1.2.size≤1000:=by
 have hd:∀k,xC (so l k) ⟨#[]⟩=true:=fun k=>by
  have:=xw l k
  rw[zV _ this.1 this.2];rfl
 unfold lO
 split
 ·rename_i h0
  split
  ·have hr:=ff l (ic l k) (n:=(types.length:Int)) (by omega) (by omega)
   have hk:(iV l (ic l k) types.length).toNat < types.length:=by omega
   have hm:types.getD (iV l (ic l k) types.length).toNat ⟨#[]⟩∈types:=by
    rw[aG,aa hk]
    exact an hk
   exact⟨by rw[zW];exact(ht _ hm).1,(ht _ hm).2⟩
  ·exact⟨hd _,aF _⟩
 ·exact⟨hd _,aF _⟩
theorem xO{types:List ByteArray}{l:List Int}{f p:Int}{k:Nat}:∀(i j:Nat),j < i→((lQ types l f p k i).1[j]?).map bD.label=some (kj.getD ((f+(j:Int)).tmod 4).toNat ⟨#[]⟩)
 |0,j,h=>by omega
 |i+1,j,h=>by
  rw[lQ]
  by_cases hj:j < i
  ·rw[aw (by rw[jI];exact hj)]
   exact xO i j hj
  ·have:j=i:=by omega
   subst this
   rw[aN (by rw[jI];omega),jI]
   simp
theorem DV{types:List ByteArray}(ht:sx types)(hl:types.length≤1000){l:List Int}{f p:Int}{k:Nat}(hf:0≤f)(hp:1≤p∧p≤1000):∀i,∀a∈(lQ types l f p k i).1,ph p a=true∧a.name.size≤1000
 |0,a,h=>by cases h
 |i+1,a,h=>by
  rw[lQ]at h
  rcases aK.1 h with h|h
  ·exact DV ht hl hf hp i a h
  ·rw[aq]at h
   subst h
   have h4:=Gb (m:=f+(i:Int)) (by omega)
   have hc:=Py ht hl l (lQ types l f p k i).2
   have hn:=ff l (lO types l (lQ types l f p k i).2).2 (n:=p) hp.1 (by omega)
   exact⟨by unfold ph;simp only;rw[Ig _ h4.1 h4.2,hc.1,decide_eq_true hn.1,decide_eq_true hn.2];rfl,hc.2⟩
theorem F1{types:List ByteArray}{l:List Int}{f p:Int}{k:Nat}(hf:0≤f∧f < 4){i:Nat}(hi:i≤4):((lQ types l f p k i).1.map bD.label).Nodup:=by
 rw[bM,bB]
 intro a b ha hb ur e
 simp only[ak,jI]at ha hb
 have h1:=xO (types:=types) (l:=l) (f:=f) (p:=p) (k:=k) i a ha
 have h2:=xO (types:=types) (l:=l) (f:=f) (p:=p) (k:=k) i b hb
 rw[←az,aa (by simpa[jI]using ha)]at h1
 rw[←az,aa (by simpa[jI]using hb)]at h2
 injection h1 with h1
 injection h2 with h2
 rw[h1,h2]at e
 have q1:=Gb (m:=f+(a:Int)) (by omega)
 have q2:=Gb (m:=f+(b:Int)) (by omega)
 have:=On _ _ (by omega) (by omega) e
 have t1:(f+(a:Int)).tmod 4=(f+a) % 4:=rv (by omega)
 have t2:(f+(b:Int)).tmod 4=(f+b) % 4:=rv (by omega)
 omega
theorem PG{types:List ByteArray}(ht:sx types)(hl:types.length≤1000)(l:List Int)(k:Nat){p:Int}(hp:1≤p∧p≤1000):ez p (Bw types l k p).1=true∧∀a∈(Bw types l k p).1,a.name.size≤1000:=by
 have GO:=ff l k (n:=3) (by omega) (by omega)
 have Is:=ff l (ic l k) (n:=4) (by omega) (by omega)
 have ha:=DV (l:=l) (k:=ic l (ic l k)) ht hl Is.1 hp (1+iV l k 3).toNat
 have hn:=F1 (types:=types) (l:=l) (k:=ic l (ic l k)) (p:=p) Is (i:=(1+iV l k 3).toNat) (by omega)
 refine⟨?_,fun a h=>(ha a h).2⟩
 unfold ez Bw
 rw[jI,decide_eq_true (show 1≤(1+iV l k 3).toNat by omega),decide_eq_true (show(1+iV l k 3).toNat≤6 by omega),decide_eq_true hn,bZ,bZ,hC,a7]
 exact fun a h=>(ha a h).1
end Go.Sy
namespace Go.Sy
open Go.Proofs
set_option maxRecDepth 100000
attribute [local irreducible] SOps Goes DOps EOps
end Go.Sy
namespace Go.Sy
open Go.Proofs
set_option maxRecDepth 100000
attribute [local irreducible] SOps Goes DOps EOps
end Go.Sy
