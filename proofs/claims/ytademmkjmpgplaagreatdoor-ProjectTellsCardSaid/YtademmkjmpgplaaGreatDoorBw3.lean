/- Contracts of the reference, bundle Bw3. -/
import Derived.Test.YtademmkjmpgplaaGreatDoorBw2
import Derived.Test.YtademmkjmpgplaaGreatDoorBd1
import Derived.Test.YtademmkjmpgplaaGreatDoorBn1
set_option linter.unusedSimpArgs false
set_option linter.unusedVariables false
set_option linter.unusedSectionVars false
namespace Go.Sy
open Go.Proofs
set_option maxRecDepth 100000
attribute [local irreducible] SOps Goes DOps EOps GOps
def anyS(types:List ByteArray)(l:List Int)(m nr:Int)(k:Nat):Nat→List Pnt×Nat
 |0=>([],k)
 |i+1=>((anyS types l m nr k i).1++[⟨rolesL.getD (pkV l (anyS types l m nr k i).2 nr).toNat ⟨#[]⟩,rolesL.getD ((pkV l (anyS types l m nr k i).2 nr+1+pkV l (pkA l (anyS types l m nr k i).2) (nr - 1)).tmod nr).toNat ⟨#[]⟩,(armV types l (pkA l (pkA l (anyS types l m nr k i).2)) (m+1)).1⟩],
  (armV types l (pkA l (pkA l (anyS types l m nr k i).2)) (m+1)).2)
def anyV(name:ByteArray)(types:List ByteArray)(l:List Int)(nr:Nat)(k:Nat):Prt×Nat:=
 (⟨name,rolesL.take nr,(anyS types l (1+pkV l k 6) nr (pkA l k) (1+pkV l k 6).toNat).1++[noPnt]⟩,(anyS types l (1+pkV l k 6) nr (pkA l k) (1+pkV l k 6).toNat).2)
theorem anyS_le{types:List ByteArray}{l:List Int}{m nr:Int}{k:Nat}(hk:k≤l.length):∀i,(anyS types l m nr k i).2≤l.length
 |0=>hk
 |i+1=>by
  have ih:=anyS_le (types:=types) (m:=m) (nr:=nr) hk i
  rw[anyS]
  exact armV_le (JZ (JZ ih))
theorem anyS_len{types:List ByteArray}{l:List Int}{m nr:Int}{k:Nat}:∀i,(anyS types l m nr k i).1.length=i
 |0=>rfl
 |i+1=>by rw[anyS];simp[anyS_len i]
theorem roleT_get{nr:Nat}(hn:nr≤5){m:Int}(h:0≤m∧m < (nr:Int)):((rolesL.take nr).map fun s=>[CT.str s])[m.toNat]? =some [.str (rolesL.getD m.toNat ⟨#[]⟩)]:=by
 have hk:m.toNat < rolesL.length:=by show m.toNat < 5;omega
 rw[List.getElem?_map,List.getElem?_take_of_lt (by omega),List.getD_eq_getElem?_getD,List.getElem?_eq_getElem hk]
 rfl
set_option maxHeartbeats 8000000 in
theorem anyx_c(name:ByteArray)(types:List ByteArray)(ht:types.length≤1000)(l:List Int)(nr:Nat)(hnr:2≤nr∧nr≤5)(k:Nat)(hk:k≤l.length):
 Con Tryz.prog 67 [J5 l k] [.one (.ptr G7 0),C1 (.str name),C1 (.int .i64 (nr:Int)),C1 (Q8 types)] (.v (Ag (anyV name types l nr k).1.cs)) [J5 l (anyV name types l nr k).2]:=by
 have hk1:=JZ hk
 have hr1:=JQ l k (n:=6) (by omega) (by omega)
 have hrl:rolesL.length=5:=rfl
 have htake:(rolesL.map fun s=>[CT.str s]).take nr=(rolesL.take nr).map fun s=>[CT.str s]:=(List.map_take).symm
 refine J2 (c:=_) Tryz.func67 rfl rfl rfl (by decide) fun w M0 H Z=>?_
 repeat'(first|refine gc_ rfl ?_|(refine G1 ?_;refine G0 th rfl ?_)|(refine G9 mix rfl rfl ?_;refine G3 th rfl ?_)|(refine G5 mix rfl rfl ?_;refine GJ th rfl ?_)|refine G2 ?_|refine G4 ?_|refine G6 ?_ rfl rfl|((first|refine G8 rfl rfl ?_ ?_|refine GG rfl rfl rfl ?_ ?_|refine Q1 rfl ?_ ?_)<;>intro hb<;>(try simp only[hbL]at hb)<;>first|(exfalso;omega)|refine G0 th rfl ?_|refine G3 th rfl ?_|skip)|((first|refine Q4 (pickx_c l k hk 6 (by omega) (by omega)) [G7] rfl rfl rfl rfl rfl rfl rfl rfl rfl rfl ?_|refine Q4 roles_c [] rfl rfl rfl rfl rfl rfl rfl rfl rfl rfl ?_|(refine K0 (op_sliceTo (j:=nr) th rfl rfl rfl rfl rfl rfl (by rw[List.length_map,hrl];omega) rfl rfl).wp rfl ?_;rw[htake]));refine G0 th rfl ?_)|(refine s_appendN th 21 rfl rfl rfl rfl rfl rfl rfl rfl rfl rfl rfl rfl rfl rfl (by constructor<;>simp[hrl]<;>omega) ?_;refine s_freeze 21 rfl rfl ?_;refine G0 th rfl ?_)|(refine QW rfl rfl rfl rfl rfl rfl (by omega) ?_;refine G0 th rfl ?_))
 obtain⟨k0,hk0⟩:∃k0,k0=pkA l k:=⟨_,rfl⟩
 obtain⟨cnt,hcnt⟩:∃cnt:Nat,cnt=(1+pkV l k 6).toNat:=⟨_,rfl⟩
 have hcI:(1+pkV l k 6:Int)=(cnt:Int):=by omega
 have hc3:1≤cnt∧cnt≤6:=by omega
 have hres:anyV name types l nr k=(⟨name,rolesL.take nr,(anyS types l cnt nr k0 cnt).1++[noPnt]⟩,(anyS types l cnt nr k0 cnt).2):=by rw[hk0,←hcI,hcnt];rfl
 rw[hres,←hk0,hcI]
 rw[←hk0]at hk1
 refine g_adoptB 10 2 200 52 3 rfl rfl rfl rfl ?_
 refine J8 (fun i:Nat=>i≤cnt)
  (fun i=>[(0,.v (.one (.ptr G7 0))),(2,.v (C1 (.int .i64 (nr:Int)))),(3,.v (C1 (Q8 types))),(8,.v (.one (.ptr 8 0))),(9,.v (C1 (.int .i64 (cnt:Int)))),(10,.v (.one (.ptr 10 0))),(11,.v (C1 (.int .i64 (i:Int))))])
  (fun i=>[(G7,.box ((J5 l (anyS types l cnt nr k0 i).2).map SC.c)),(8,.box [.c (.str ⟨#[]⟩),.c .nils,.c .nils]),(10,.box [.c (.str name),.c (Q8 (rolesL.take nr)),.own 200]),(200,.arr false 52 3 ((anyS types l cnt nr k0 i).1.map Pnt.cs))])
  (fun i=>cnt - i) 0 (Nat.zero_le _)
  (fun a w h=>h.sub (by exact⟨⟨_,rfl,.refl _⟩,⟨_,rfl,.refl _⟩,⟨_,rfl,.refl _⟩,⟨_,rfl,.refl _⟩,⟨_,rfl,.refl _⟩,⟨_,rfl,.refl _⟩,⟨_,rfl,GY rfl⟩,trivial⟩) (by exact⟨⟨_,rfl,.refl _⟩,⟨_,rfl,.refl _⟩,⟨_,rfl,.refl _⟩,⟨_,rfl,le_arr rfl⟩,trivial⟩) rfl rfl rfl) (fun i hi ih=>?_)
 have hle:=anyS_le (types:=types) (m:=(cnt:Int)) (nr:=(nr:Int)) hk1 i
 have hle1:=JZ hle
 have hle2:=JZ hle1
 have htl:=anyS_len (types:=types) (l:=l) (m:=(cnt:Int)) (nr:=(nr:Int)) (k:=k0) i
 by_cases hlt:i < cnt
 ·have hq1:=JQ l (anyS types l cnt nr k0 i).2 (n:=(nr:Int)) (by omega) (by omega)
  have hq2:=JQ l (pkA l (anyS types l cnt nr k0 i).2) (n:=(nr:Int) - 1) (by omega) (by omega)
  have hm:0≤(pkV l (anyS types l cnt nr k0 i).2 nr+1+pkV l (pkA l (anyS types l cnt nr k0 i).2) (nr - 1)).tmod nr∧(pkV l (anyS types l cnt nr k0 i).2 nr+1+pkV l (pkA l (anyS types l cnt nr k0 i).2) (nr - 1)).tmod nr < nr:=⟨Int.tmod_nonneg _ (by omega),Int.tmod_lt_of_pos _ (by omega)⟩
  have x1:=roleT_get (nr:=nr) (by omega) hq1
  have x2:=roleT_get (nr:=nr) (by omega) hm
  have hih:=ih (i+1) hlt (by omega)
  rw[anyS]at hih
  repeat'(first|(refine g_drawS 19 [G7] mix rfl rfl rfl rfl rfl rfl rfl rfl ?_;refine K3 th rfl ?_)|refine gc_ rfl ?_|(refine G1 ?_;refine G0 th rfl ?_)|(refine G9 mix rfl rfl ?_;refine G3 th rfl ?_)|(refine G5 mix rfl rfl ?_;refine GJ th rfl ?_)|refine G2 ?_|refine G4 ?_|refine G6 ?_ rfl rfl|((first|refine G8 rfl rfl ?_ ?_|refine GG rfl rfl rfl ?_ ?_|refine Q1 rfl ?_ ?_)<;>intro hb<;>(try simp only[hbL]at hb)<;>first|(exfalso;omega)|refine G0 th rfl ?_|refine G3 th rfl ?_|skip)|((first|refine Q4 (pickx_c l _ hle (nr:Int) (by omega) (by omega)) [G7] rfl rfl rfl rfl rfl rfl rfl rfl rfl rfl ?_|refine Q4 (pickx_c l _ hle1 ((nr:Int) - 1) (by omega) (by omega)) [G7] rfl rfl rfl rfl rfl rfl rfl rfl rfl rfl ?_|refine s_subI rfl rfl rfl rfl rfl rfl (by omega) ?_|refine s_rem rfl rfl rfl rfl rfl rfl (by omega) ?_);refine G0 th rfl ?_)|(refine s_anyB 10 2 rfl ?_;refine s_appendF th rfl rfl rfl rfl rfl rfl rfl rfl rfl rfl rfl rfl rfl rfl (by constructor<;>simp[htl]<;>omega) ?_;refine G0 th rfl ?_)|((first|refine q_add rfl rfl rfl rfl rfl rfl (by omega) ?_|refine q_idx th rfl rfl rfl rfl rfl rfl rfl rfl rfl _ _ (by omega) x1 ?_|refine q_idx th rfl rfl rfl rfl rfl rfl rfl rfl rfl _ _ (by omega) x2 ?_|refine q_eff (armx_c types ht l _ hle2 ((cnt:Int)+1) (by omega) (by omega)) [G7] rfl rfl rfl rfl rfl rfl rfl rfl rfl rfl rfl (outM_sub (ids:=[G7]) rfl) ?_|refine q_lit th rfl rfl rfl rfl rfl rfl rfl rfl rfl rfl rfl rfl (.refl _) ?_);refine K3 th rfl ?_)|refine GOps.nil ?_|(refine QW rfl rfl rfl rfl rfl rfl (by omega) ?_;refine G0 th rfl ?_))
  exact QK (by exact⟨⟨_,rfl,.refl _⟩,⟨_,rfl,.refl _⟩,⟨_,rfl,.refl _⟩,⟨_,rfl,.refl _⟩,⟨_,rfl,.refl _⟩,⟨_,rfl,.refl _⟩,⟨_,rfl,GY (by omega)⟩,trivial⟩) (by exact⟨⟨_,rfl,.refl _⟩,⟨_,rfl,.refl _⟩,⟨_,rfl,.refl _⟩,⟨_,rfl,le_arr (by rw[List.map_append];rfl)⟩,trivial⟩) rfl rfl rfl hih
 ·have hie:i=cnt:=by omega
  rw[hie]at htl⊢
  repeat'(first|(refine g_atR 10 rfl ?_;refine g_freeze 200 rfl rfl ?_)|refine gc_ rfl ?_|(refine G1 ?_;refine G0 th rfl ?_)|(refine G9 mix rfl rfl ?_;refine G3 th rfl ?_)|(refine G5 mix rfl rfl ?_;refine GJ th rfl ?_)|refine G2 ?_|refine G4 ?_|refine G6 ?_ rfl rfl|((first|refine G8 rfl rfl ?_ ?_|refine GG rfl rfl rfl ?_ ?_|refine Q1 rfl ?_ ?_)<;>intro hb<;>(try simp only[hbL]at hb)<;>first|(exfalso;omega)|refine G0 th rfl ?_|refine G3 th rfl ?_|skip)|(refine s_anyB 10 2 rfl ?_;refine s_append th rfl rfl rfl rfl rfl rfl rfl rfl rfl rfl rfl rfl rfl rfl rfl (by constructor<;>simp[htl]<;>omega) ?_;refine G0 th rfl ?_))
  refine QQ th Tryz.func67 (.inr ⟨_,rfl⟩) rfl rfl rfl ?_ rfl
  refine .v (.agg (.cons (.refl _) (.cons (.refl _) (.cons (.c (le_deep ?_)) .nil))))
  rw[List.map_append]
  exact .append (.refl _) (.cons (.cons (.refl _) (.cons (.refl _) (.cons (.nil 4) .nil))) .nil)
end Go.Sy
namespace Go.Sy
open Go.Proofs
set_option maxRecDepth 100000
attribute [local irreducible] SOps Goes DOps EOps GOps
set_option maxHeartbeats 8000000 in
theorem prot2_c(name:ByteArray)(types:List ByteArray)(ht:types.length≤1000)(l:List Int)(k:Nat)(hk:k≤l.length)(h2:pkV l k 4=2):
 Con Tryz.prog 34 [J5 l k] [.one (.ptr G7 0),C1 (.str name),C1 (Q8 types)] (.v (Ag (anyV name types l 3 (pkA l k)).1.cs)) [J5 l (anyV name types l 3 (pkA l k)).2]:=by
 have hp:=pickx_c l k hk 4 (by omega) (by omega)
 rw[h2]at hp
 have hany:=anyx_c name types ht l 3 (by omega) (pkA l k) (JZ hk)
 refine J2 (c:=_) Tryz.func34 rfl rfl rfl (by decide) fun w M0 H Z=>?_
 repeat'(first|refine gc_ rfl ?_|(refine G1 ?_;refine G0 th rfl ?_)|(refine G9 mix rfl rfl ?_;refine G3 th rfl ?_)|(refine G5 mix rfl rfl ?_;refine GJ th rfl ?_)|refine G2 ?_|refine G4 ?_|refine G6 ?_ rfl rfl|((first|refine G8 rfl rfl ?_ ?_|refine GG rfl rfl rfl ?_ ?_|refine Q1 rfl ?_ ?_)<;>intro hb<;>(try simp only[hbL]at hb)<;>first|(exfalso;omega)|refine G0 th rfl ?_|refine G3 th rfl ?_|skip)|((first|refine Q4 hp [G7] rfl rfl rfl rfl rfl rfl rfl rfl rfl rfl ?_|refine Q4 hany [G7] rfl rfl rfl rfl rfl rfl rfl rfl rfl rfl ?_);refine G0 th rfl ?_))
 all_goals first
  |(exfalso;revert hb;simp;done)
  |(refine QQ th Tryz.func34 (.inr ⟨_,rfl⟩) rfl rfl rfl ?_ rfl
    exact .refl _)
theorem role3_place:∀m:Nat,m < 3→placeI (rolesL.take 3) (rolesL.getD m ⟨#[]⟩)=(m:Int):=by
 intro m hm
 have:m=0∨m=1∨m=2:=by omega
 rcases this with rfl|rfl|rfl<;>decide
theorem role3_inj:∀a b:Nat,a < 3→b < 3→rolesL.getD a ⟨#[]⟩=rolesL.getD b ⟨#[]⟩→a=b:=fun a b ha hb h=>by
 have h1:=role3_place a ha
 rw[h,role3_place b hb]at h1
 omega
theorem anyS_ok{types:List ByteArray}(ht:TypesOK types)(hl:types.length≤1000){l:List Int}{m:Int}{k:Nat}(hm:1≤m∧m≤900):∀i,∀x∈(anyS types l m 3 k i).1,pntB (rolesL.take 3) (m+1) x=true∧∀a∈x.arms,a.name.size≤1000
 |0,x,h=>by cases h
 |i+1,x,h=>by
  rw[anyS]at h
  rcases List.mem_append.1 h with h|h
  ·exact anyS_ok ht hl hm i x h
  ·rw[List.mem_singleton]at h
   have hq1:=JQ l (anyS types l m 3 k i).2 (n:=3) (by omega) (by omega)
   have hq2:=JQ l (pkA l (anyS types l m 3 k i).2) (n:=2) (by omega) (by omega)
   have ha:=armV_ok ht hl l (pkA l (pkA l (anyS types l m 3 k i).2)) (p:=m+1) (by omega)
   generalize pkV l (anyS types l m 3 k i).2 3=u at *
   rw[show(3:Int) - 1=2 by omega]at h
   generalize pkV l (pkA l (anyS types l m 3 k i).2) 2=v at *
   have ht2:(u+1+v).tmod 3=(u+1+v) % 3:=Int.tmod_eq_emod_of_nonneg (by omega)
   rw[ht2]at h
   subst h
   refine⟨?_,ha.2⟩
   unfold pntB
   simp only
   rw[role3_place _ (by omega),role3_place _ (by omega),ha.1,decide_eq_true (show(0:Int)≤(u.toNat:Int) by omega),decide_eq_true (show(0:Int)≤(((u+1+v) % 3).toNat:Int) by omega),
    decide_eq_true (show rolesL.getD u.toNat ⟨#[]⟩≠rolesL.getD ((u+1+v) % 3).toNat ⟨#[]⟩from fun e=>by have:=role3_inj _ _ (by omega) (by omega) e;omega)]
   simp
theorem anyV_ok{name:ByteArray}(hn:nameB name=true){types:List ByteArray}(ht:TypesOK types)(hl:types.length≤1000)(l:List Int)(k:Nat):prtB (anyV name types l 3 k).1=true∧PrtBig (anyV name types l 3 k).1:=by
 have hr:=JQ l k (n:=6) (by omega) (by omega)
 have hI:((1+pkV l k 6).toNat:Int)=1+pkV l k 6:=by omega
 have hlen:(anyV name types l 3 k).1.points.length=(1+pkV l k 6).toNat+1:=by simp[anyV,anyS_len]
 have hall:=anyS_ok (l:=l) (k:=pkA l k) ht hl (m:=1+pkV l k 6) (by omega) (1+pkV l k 6).toNat
 refine⟨?_,fun x hx a ha=>?_⟩
 ·unfold prtB
  rw[hlen]
  have h1:decide (2≤(anyV name types l 3 k).1.roles.length)=true:=rfl
  have h2:decide ((anyV name types l 3 k).1.roles.length≤5)=true:=rfl
  have h3:onceB (anyV name types l 3 k).1.roles=true:=(by decide:onceB (rolesL.take 3)=true)
  have h4:(anyV name types l 3 k).1.roles.all nameB=true:=(by decide:(rolesL.take 3).all nameB=true)
  rw[show nameB (anyV name types l 3 k).1.name=true from hn,h1,h2,h3,h4,decide_eq_true (show 1≤(1+pkV l k 6).toNat+1 by omega),decide_eq_true (show(1+pkV l k 6).toNat+1≤24 by omega)]
  simp only[Bool.true_and,List.all_eq_true]
  intro x hx
  rw[show(((1+pkV l k 6).toNat+1:Nat):Int)=1+pkV l k 6+1 by omega]
  rcases List.mem_append.1 (show x∈_++[noPnt]from hx)with h|h
  ·exact(hall x h).1
  ·rw[List.mem_singleton]at h;subst h;rfl
 ·rcases List.mem_append.1 (show x∈_++[noPnt]from hx)with h|h
  ·exact Nat.le_trans ((hall x h).2 a ha) (by decide)
  ·rw[List.mem_singleton]at h;subst h;cases ha
end Go.Sy
namespace Go.Sy
open Go.Proofs
set_option maxRecDepth 100000
attribute [local irreducible] SOps Goes DOps EOps GOps
end Go.Sy
