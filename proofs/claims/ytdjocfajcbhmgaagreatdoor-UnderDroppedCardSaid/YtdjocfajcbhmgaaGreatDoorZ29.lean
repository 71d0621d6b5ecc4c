/- Contracts of the reference, bundle Bw3. -/
import Derived.Test.YtdjocfajcbhmgaaGreatDoorAu
import Derived.Test.YtdjocfajcbhmgaaGreatDoorBw2
import Derived.Test.YtdjocfajcbhmgaaGreatDoorBd1
import Derived.Test.YtdjocfajcbhmgaaGreatDoorZ1
import Derived.Test.YtdjocfajcbhmgaaGreatDoorBc
import Derived.Test.YtdjocfajcbhmgaaGreatDoorZ22
import Derived.Test.YtdjocfajcbhmgaaGreatDoorZ5
import Derived.Test.YtdjocfajcbhmgaaGreatDoorZ8
set_option maxHeartbeats 64000000
set_option linter.unusedSimpArgs false
set_option linter.unusedVariables false
set_option linter.unusedSectionVars false
namespace Go.Sy
open Go.Proofs
set_option maxRecDepth 100000
attribute [local irreducible] SOps Goes DOps EOps GOps
def anyS(types:List ByteArray)(l:List Int)(m nr:Int)(k:Nat):Nat→List kP×Nat
 |0=>([],k)
 |i+1=>((anyS types l m nr k i).1++[⟨fb.getD (iV l (anyS types l m nr k i).2 nr).toNat ⟨#[]⟩,fb.getD ((iV l (anyS types l m nr k i).2 nr+1+iV l (ic l (anyS types l m nr k i).2) (nr - 1)).tmod nr).toNat ⟨#[]⟩,(Bw types l (ic l (ic l (anyS types l m nr k i).2)) (m+1)).1⟩],
  (Bw types l (ic l (ic l (anyS types l m nr k i).2)) (m+1)).2)
def qk(name:ByteArray)(types:List ByteArray)(l:List Int)(nr:Nat)(k:Nat):b7×Nat:=
 (⟨name,fb.take nr,(anyS types l (1+iV l k 6) nr (ic l k) (1+iV l k 6).toNat).1++[oK]⟩,(anyS types l (1+iV l k 6) nr (ic l k) (1+iV l k 6).toNat).2)
theorem Hm{types:List ByteArray}{l:List Int}{m nr:Int}{k:Nat}(hk:k≤l.length):∀i,(anyS types l m nr k i).2≤l.length
 |0=>hk
 |i+1=>by
  have ih:=Hm (types:=types) (m:=m) (nr:=nr) hk i
  rw[anyS]
  exact PH (gU (gU ih))
theorem xQ{types:List ByteArray}{l:List Int}{m nr:Int}{k:Nat}:∀i,(anyS types l m nr k i).1.length=i
 |0=>rfl
 |i+1=>by rw[anyS];simp[xQ i]
theorem y3{nr:Nat}(hn:nr≤5){m:Int}(h:0≤m∧m < (nr:Int)):((fb.take nr).map fun s=>[CT.str s])[m.toNat]? =some [.str (fb.getD m.toNat ⟨#[]⟩)]:=by
 have hk:m.toNat < fb.length:=by show m.toNat < 5;omega
 rw[az,List.getElem?_take_of_lt (by omega),aG,aa hk]
 rfl
theorem S6(name:ByteArray)(types:List ByteArray)(ht:types.length≤1000)(l:List Int)(nr:Nat)(od:2≤nr∧nr≤5)(k:Nat)(hk:k≤l.length):
 er Tryz.prog 37 [kO l k] [.one (.ptr given 0),C1 (.str name),C1 (.int .i64 (nr:Int)),C1 (bL types)] (.v (Ag (qk name types l nr k).1.cs)) [kO l (qk name types l nr k).2]:=by
 have IA:=gU hk
 have GO:=ff l k (n:=6) (by omega) (by omega)
 have BF:fb.length=5:=rfl
 have ob:(fb.map fun s=>[CT.str s]).take nr=(fb.take nr).map fun s=>[CT.str s]:=(List.map_take).symm
 refine bn (c:=_) Tryz.func37 rfl rfl rfl (by decide) fun w M0 H Z=>?_
 repeat'(first|refine aA ?_|(refine aB ?_ ?_<;>first|exact aD|(refine aE ?_;intro hb))|((first|refine aR (jw l k hk 6 (by omega) (by omega)) [given] J J J J J J J J J J ?_|refine aR Ny [] J J J J J J J J J J ?_|(refine cB (wg (j:=nr) th J J J J J J (by rw[ak,BF];omega) J J).wp rfl ?_;rw[ob]));refine ao th J ?_)|(refine sS th 21 J J J J J J J J J J J J J J (by constructor<;>simp[BF]<;>omega) ?_;refine fa 21 J J ?_;refine ao th J ?_)|(refine bH J J J J J J (by omega) ?_;refine ao th J ?_))
 obtain⟨k0,M5⟩:∃k0,k0=ic l k:=⟨_,rfl⟩
 obtain⟨oo,Sb⟩:∃oo:Nat,oo=(1+iV l k 6).toNat:=⟨_,rfl⟩
 have Qw:(1+iV l k 6:Int)=(oo:Int):=by omega
 have Xr:1≤oo∧oo≤6:=by omega
 have qg:qk name types l nr k=(⟨name,fb.take nr,(anyS types l oo nr k0 oo).1++[oK]⟩,(anyS types l oo nr k0 oo).2):=by rw[M5,←Qw,Sb];rfl
 rw[qg,←M5,Qw]
 rw[←M5]at IA
 refine kv 10 2 200 37 3 J J J J ?_
 refine bE (fun i:Nat=>i≤oo)
  (fun i=>[(0,.v (.one (.ptr given 0))),(2,.v (C1 (.int .i64 (nr:Int)))),(3,.v (C1 (bL types))),(8,.v (.one (.ptr 8 0))),(9,.v (C1 (.int .i64 (oo:Int)))),(10,.v (.one (.ptr 10 0))),(11,.v (C1 (.int .i64 (i:Int))))])
  (fun i=>[(given,.box ((kO l (anyS types l oo nr k0 i).2).map SC.c)),(8,.box [.c (.str ⟨#[]⟩),.c .bA,.c .bA]),(10,.box [.c (.str name),.c (bL (fb.take nr)),.own 200]),(200,.arr false 37 3 ((anyS types l oo nr k0 i).1.map kP.cs))])
  (fun i=>oo - i) 0 (aF _)
  aH (fun i hi ih=>?_)
 have hle:=Hm (types:=types) (m:=(oo:Int)) (nr:=(nr:Int)) IA i
 have UE:=gU hle
 have WY:=gU UE
 have C7:=xQ (types:=types) (l:=l) (m:=(oo:Int)) (nr:=(nr:Int)) (k:=k0) i
 by_cases bj:i < oo
 ·have Qh:=ff l (anyS types l oo nr k0 i).2 (n:=(nr:Int)) (by omega) (by omega)
  have WG:=ff l (ic l (anyS types l oo nr k0 i).2) (n:=(nr:Int) - 1) (by omega) (by omega)
  have hm:0≤(iV l (anyS types l oo nr k0 i).2 nr+1+iV l (ic l (anyS types l oo nr k0 i).2) (nr - 1)).tmod nr∧(iV l (anyS types l oo nr k0 i).2 nr+1+iV l (ic l (anyS types l oo nr k0 i).2) (nr - 1)).tmod nr < nr:=⟨Int.tmod_nonneg _ (by omega),Int.tmod_lt_of_pos _ (by omega)⟩
  have x1:=y3 (nr:=nr) (by omega) Qh
  have x2:=y3 (nr:=nr) (by omega) hm
  have cT:=ih (i+1) bj (by omega)
  rw[anyS]at cT
  repeat'(first|(refine GZ 19 [given] mix J J J J J J J J ?_;refine lA th J ?_)|refine aA ?_|(refine aB ?_ ?_<;>first|exact aD|(refine aE ?_;intro hb))|((first|refine aR (jw l _ hle (nr:Int) (by omega) (by omega)) [given] J J J J J J J J J J ?_|refine aR (jw l _ UE ((nr:Int) - 1) (by omega) (by omega)) [given] J J J J J J J J J J ?_|refine JH J J J J J J (by omega) ?_|refine TV J J J J J J (by omega) ?_);refine ao th J ?_)|(refine nB 10 2 J ?_;refine k8 th J J J J J J J J J J J J J J (by constructor<;>simp[C7]<;>omega) ?_;refine ao th J ?_)|((first|refine P6 J J J J J J (by omega) ?_|refine J6 th J J J J J J J J J _ _ (by omega) x1 ?_|refine J6 th J J J J J J J J J _ _ (by omega) x2 ?_|refine J7 (S4 types ht l _ WY ((oo:Int)+1) (by omega) (by omega)) [given] J J J J J J J J J J J (we (ids:=[given]) J) ?_|refine J5 th J J J J J J J J J J J J (.refl _) ?_);refine lA th J ?_)|refine GOps.nil ?_|(refine bH J J J J J J (by omega) ?_;refine ao th J ?_))
  exact aS (h2:=by exact⟨⟨_,rfl,.refl _⟩,⟨_,rfl,.refl _⟩,⟨_,rfl,.refl _⟩,⟨_,rfl,fE (by rw[bg];rfl)⟩,trivial⟩) cT
 ·have OO:i=oo:=by omega
  rw[OO]at C7⊢
  repeat'(first|(refine o6 10 J ?_;refine dY 200 J J ?_)|refine aA ?_|(refine aB ?_ ?_<;>first|exact aD|(refine aE ?_;intro hb))|(refine nB 10 2 J ?_;refine eo th J J J J J J J J J J J J J J J (by constructor<;>simp[C7]<;>omega) ?_;refine ao th J ?_))
  refine aZ th Tryz.func37 (.inr ⟨_,rfl⟩) J J J ?_ rfl
  refine .v (.agg (.cons (.refl _) (.cons (.refl _) (.cons (.c (GF ?_)) .nil))))
  rw[bg]
  exact .append (.refl _) (.cons (.cons (.refl _) (.cons (.refl _) (.cons (.nil 4) .nil))) .nil)
end Go.Sy
set_option linter.unusedSimpArgs false
set_option linter.unusedVariables false
set_option linter.unusedSectionVars false
namespace Go.Sy
theorem DH{L:List Loc}(hP:nU L){l:Loc}(hl:l∈L){t:Int}(h0:0≤t)(h1:t < (l.turns.length:Int)):
 (dJ L).nodes[(eX L l.name+t).toNat]? =some (l5 (eX L) (eX L l.name) (dc l t)):=by
 obtain⟨i,hi,rfl⟩:=aC.1 hl
 have ht:t.toNat < L[i].turns.length:=by omega
 rw[Br hP.nodup hi,show((gx (L.take i):Int)+t).toNat=gx (L.take i)+t.toNat by omega]
 show(ir (eX L) L)[_]? =_
 rw[H3 hi ht]
 unfold dc
 rw[aG,aa ht];rfl
theorem Mm(l:List Int)(k:Nat):(lO [] l k).1.1 < 5:=by
 unfold lO
 rw[if_neg (by simp)]
 exact(xw l k).2
theorem DU{l:List Int}{f p:Int}{k:Nat}:∀i,∀a∈(lQ [] l f p k i).1,a.kind < 5
 |0,a,h=>by cases h
 |i+1,a,h=>by
  rw[lQ]at h
  rcases aK.1 h with h|h
  ·exact DU i a h
  ·rw[aq]at h
   subst h;exact Mm _ _
end Go.Sy
set_option linter.unusedSimpArgs false
set_option linter.unusedVariables false
set_option linter.unusedSectionVars false
namespace Go.Sy
open Go.Proofs
set_option maxRecDepth 100000
attribute [local irreducible] SOps Goes DOps EOps GOps
theorem NQ(name:ByteArray)(types:List ByteArray)(ht:types.length≤1000)(l:List Int)(k:Nat)(hk:k≤l.length)(h2:iV l k 4=0):
 er Tryz.prog 21 [kO l k] [.one (.ptr given 0),C1 (.str name),C1 (bL types)] (.v (Ag (qk name types l 2 (ic l k)).1.cs)) [kO l (qk name types l 2 (ic l k)).2]:=by
 have hp:=jw l k hk 4 (by omega) (by omega)
 rw[h2]at hp
 have o3:=S6 name types ht l 2 (by omega) (ic l k) (gU hk)
 refine bn (c:=_) Tryz.func21 rfl rfl rfl (by decide) fun w M0 H Z=>?_
 repeat'(first|refine aA ?_|(refine aB ?_ ?_<;>first|exact aD|(refine aE ?_;intro hb))|((first|refine aR hp [given] J J J J J J J J J J ?_|refine aR o3 [given] J J J J J J J J J J ?_);refine ao th J ?_))
 all_goals first
  |(exfalso;revert hb;simp;done)
  |(refine aZ th Tryz.func21 (.inr ⟨_,rfl⟩) J J J ?_ rfl
    exact .refl _)
theorem lX{nr:Nat}(h:2≤nr∧nr≤5):∀m:Nat,m < nr→fC (fb.take nr) (fb.getD m ⟨#[]⟩)=(m:Int):=by
 intro m hm
 have h1:nr=2∨nr=3∨nr=4∨nr=5:=by omega
 have h3:m=0∨m=1∨m=2∨m=3∨m=4:=by omega
 rcases h1 with rfl|rfl|rfl|rfl<;>rcases h3 with rfl|rfl|rfl|rfl|rfl<;>first|(exfalso;omega)|decide
theorem HJ{nr:Nat}(hn:2≤nr∧nr≤5):∀a b:Nat,a < nr→b < nr→fb.getD a ⟨#[]⟩=fb.getD b ⟨#[]⟩→a=b:=fun a b ha hb h=>by
 have h1:=lX hn a ha
 rw[h,lX hn b hb]at h1
 omega
theorem Ev{nr:Nat}(h:2≤nr∧nr≤5):rU (fb.take nr)=true∧(fb.take nr).all cg=true∧(fb.take nr).length=nr:=by
 have h1:nr=2∨nr=3∨nr=4∨nr=5:=by omega
 rcases h1 with rfl|rfl|rfl|rfl<;>refine⟨?_,?_,?_⟩<;>decide
theorem DW{types:List ByteArray}(ht:sx types)(hl:types.length≤1000){l:List Int}{m:Int}{k nr:Nat}(od:2≤nr∧nr≤5)(hm:1≤m∧m≤900):∀i,∀x∈(anyS types l m nr k i).1,rQ (fb.take nr) (m+1) x=true∧∀a∈x.ax,a.name.size≤1000
 |0,x,h=>by cases h
 |i+1,x,h=>by
  rw[anyS]at h
  rcases aK.1 h with h|h
  ·exact DW ht hl od hm i x h
  ·rw[aq]at h
   have Qh:=ff l (anyS types l m nr k i).2 (n:=(nr:Int)) (by omega) (by omega)
   have WG:=ff l (ic l (anyS types l m nr k i).2) (n:=(nr:Int) - 1) (by omega) (by omega)
   have ha:=PG ht hl l (ic l (ic l (anyS types l m nr k i).2)) (p:=m+1) (by omega)
   generalize iV l (anyS types l m nr k i).2 nr=u at *
   generalize iV l (ic l (anyS types l m nr k i).2) ((nr:Int) - 1)=v at *
   have Wv:(u+1+v).tmod nr=(u+1+v) % nr:=rv (by omega)
   rw[Wv]at h
   have cV:(((u+1+v) % nr).toNat < nr)∧u.toNat≠((u+1+v) % nr).toNat:=by
    have h1:nr=2∨nr=3∨nr=4∨nr=5:=by omega
    rcases h1 with rfl|rfl|rfl|rfl<;>omega
   subst h
   refine⟨?_,ha.2⟩
   unfold rQ
   simp only
   rw[lX od _ (by omega),lX od _ cV.1,ha.1,decide_eq_true (show(0:Int)≤(u.toNat:Int) by omega),decide_eq_true (show(0:Int)≤(((u+1+v) % nr).toNat:Int) by omega),
    decide_eq_true (show fb.getD u.toNat ⟨#[]⟩≠fb.getD ((u+1+v) % nr).toNat ⟨#[]⟩from fun e=>cV.2 (HJ od _ _ (by omega) cV.1 e))]
   simp
theorem MF{name:ByteArray}(hn:cg name=true){types:List ByteArray}(ht:sx types)(hl:types.length≤1000)(l:List Int)(k:Nat){nr:Nat}(od:2≤nr∧nr≤5):dj (qk name types l nr k).1=true∧ix (qk name types l nr k).1:=by
 have hr:=ff l k (n:=6) (by omega) (by omega)
 have hI:((1+iV l k 6).toNat:Int)=1+iV l k 6:=by omega
 have hlen:(qk name types l nr k).1.points.length=(1+iV l k 6).toNat+1:=by simp[qk,xQ]
 have gf:=DW (l:=l) (k:=ic l k) ht hl od (m:=1+iV l k 6) (by omega) (1+iV l k 6).toNat
 obtain⟨ho,Eb,BF⟩:=Ev od
 refine⟨?_,fun x hx a ha=>?_⟩
 ·unfold dj
  rw[hlen,show(qk name types l nr k).1.aW=fb.take nr from rfl,BF]
  rw[show cg (qk name types l nr k).1.name=true from hn,decide_eq_true od.1,decide_eq_true od.2,ho,Eb,decide_eq_true (show 1≤(1+iV l k 6).toNat+1 by omega),decide_eq_true (show(1+iV l k 6).toNat+1≤24 by omega)]
  simp only[bZ,a7]
  intro x hx
  rw[show(((1+iV l k 6).toNat+1:Nat):Int)=1+iV l k 6+1 by omega]
  rcases aK.1 (show x∈_++[oK]from hx)with h|h
  ·exact(gf x h).1
  ·rw[aq]at h;subst h;rfl
 ·rcases aK.1 (show x∈_++[oK]from hx)with h|h
  ·exact dB ((gf x h).2 a ha) (by decide)
  ·rw[aq]at h;subst h;cases ha
def wL(made:List Int):b7:=(qk ⟨#[112]⟩ [] (0::made) 2 (ic (0::made) 0)).1
theorem T5(made:List Int):iV (0::made) 0 4=0:=by
 show IntKind.i64.wrap ((IntKind.u64.wrap 0).tmod (IntKind.u64.wrap 4))=0
 decide
theorem KO(made:List Int):dj (wL made)=true∧ix (wL made):=MF (by decide) (fun t h=>by cases h) (by simp) _ _ (by omega)
theorem CH(made:List Int):(wL made).aW=[⟨#[97]⟩,⟨#[98]⟩]:=rfl
theorem MC{n:Int}{l:List bD}(h:ez n l=true):0 < l.length:=by
 unfold ez at h
 simp only[av,decide_eq_true_eq]at h
 omega
theorem Ci{aW:List ByteArray}{n:Int}{x:kP}(h:rQ aW n x=true):(x.from_=⟨#[]⟩∧x.to=⟨#[]⟩∧x.ax=[])∨(x.from_∈aW∧x.to∈aW∧x.from_≠x.to∧ez n x.ax=true):=by
 unfold rQ nb at h
 simp only[eu,av,decide_eq_true_eq,fj]at h
 rcases h with h|h
 ·exact .inl h
 ·exact .inr ⟨fh.1 (decide_eq_true h.1),fh.1 (decide_eq_true h.2.1),h.2.2⟩
end Go.Sy
