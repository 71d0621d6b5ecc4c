/- Contracts: reparteemake.Protocol where the first number picks two roles; what comes of free points is valid, for every number of roles. -/
import Derived.Test.YtademmkjmpgplaaGreatDoorBw3
set_option linter.unusedSimpArgs false
set_option linter.unusedVariables false
set_option linter.unusedSectionVars false
namespace Go.Sy
open Go.Proofs
set_option maxRecDepth 100000
attribute [local irreducible] SOps Goes DOps EOps GOps
set_option maxHeartbeats 8000000 in
theorem prot0_c(name:ByteArray)(types:List ByteArray)(ht:types.length≤1000)(l:List Int)(k:Nat)(hk:k≤l.length)(h2:pkV l k 4=0):
 Con Tryz.prog 34 [J5 l k] [.one (.ptr G7 0),C1 (.str name),C1 (Q8 types)] (.v (Ag (anyV name types l 2 (pkA l k)).1.cs)) [J5 l (anyV name types l 2 (pkA l k)).2]:=by
 have hp:=pickx_c l k hk 4 (by omega) (by omega)
 rw[h2]at hp
 have hany:=anyx_c name types ht l 2 (by omega) (pkA l k) (JZ hk)
 refine J2 (c:=_) Tryz.func34 rfl rfl rfl (by decide) fun w M0 H Z=>?_
 repeat'(first|refine gc_ rfl ?_|(refine G1 ?_;refine G0 th rfl ?_)|(refine G9 mix rfl rfl ?_;refine G3 th rfl ?_)|(refine G5 mix rfl rfl ?_;refine GJ th rfl ?_)|refine G2 ?_|refine G4 ?_|refine G6 ?_ rfl rfl|((first|refine G8 rfl rfl ?_ ?_|refine GG rfl rfl rfl ?_ ?_|refine Q1 rfl ?_ ?_)<;>intro hb<;>(try simp only[hbL]at hb)<;>first|(exfalso;omega)|refine G0 th rfl ?_|refine G3 th rfl ?_|skip)|((first|refine Q4 hp [G7] rfl rfl rfl rfl rfl rfl rfl rfl rfl rfl ?_|refine Q4 hany [G7] rfl rfl rfl rfl rfl rfl rfl rfl rfl rfl ?_);refine G0 th rfl ?_))
 all_goals first
  |(exfalso;revert hb;simp;done)
  |(refine QQ th Tryz.func34 (.inr ⟨_,rfl⟩) rfl rfl rfl ?_ rfl
    exact .refl _)
theorem roleN_place{nr:Nat}(h:2≤nr∧nr≤5):∀m:Nat,m < nr→placeI (rolesL.take nr) (rolesL.getD m ⟨#[]⟩)=(m:Int):=by
 intro m hm
 have h1:nr=2∨nr=3∨nr=4∨nr=5:=by omega
 have h3:m=0∨m=1∨m=2∨m=3∨m=4:=by omega
 rcases h1 with rfl|rfl|rfl|rfl<;>rcases h3 with rfl|rfl|rfl|rfl|rfl<;>first|(exfalso;omega)|decide
theorem roleN_inj{nr:Nat}(hn:2≤nr∧nr≤5):∀a b:Nat,a < nr→b < nr→rolesL.getD a ⟨#[]⟩=rolesL.getD b ⟨#[]⟩→a=b:=fun a b ha hb h=>by
 have h1:=roleN_place hn a ha
 rw[h,roleN_place hn b hb]at h1
 omega
theorem roleN_once{nr:Nat}(h:2≤nr∧nr≤5):onceB (rolesL.take nr)=true∧(rolesL.take nr).all nameB=true∧(rolesL.take nr).length=nr:=by
 have h1:nr=2∨nr=3∨nr=4∨nr=5:=by omega
 rcases h1 with rfl|rfl|rfl|rfl<;>refine⟨?_,?_,?_⟩<;>decide
theorem anyS_okN{types:List ByteArray}(ht:TypesOK types)(hl:types.length≤1000){l:List Int}{m:Int}{k nr:Nat}(hnr:2≤nr∧nr≤5)(hm:1≤m∧m≤900):∀i,∀x∈(anyS types l m nr k i).1,pntB (rolesL.take nr) (m+1) x=true∧∀a∈x.arms,a.name.size≤1000
 |0,x,h=>by cases h
 |i+1,x,h=>by
  rw[anyS]at h
  rcases List.mem_append.1 h with h|h
  ·exact anyS_okN ht hl hnr hm i x h
  ·rw[List.mem_singleton]at h
   have hq1:=JQ l (anyS types l m nr k i).2 (n:=(nr:Int)) (by omega) (by omega)
   have hq2:=JQ l (pkA l (anyS types l m nr k i).2) (n:=(nr:Int) - 1) (by omega) (by omega)
   have ha:=armV_ok ht hl l (pkA l (pkA l (anyS types l m nr k i).2)) (p:=m+1) (by omega)
   generalize pkV l (anyS types l m nr k i).2 nr=u at *
   generalize pkV l (pkA l (anyS types l m nr k i).2) ((nr:Int) - 1)=v at *
   have ht2:(u+1+v).tmod nr=(u+1+v) % nr:=Int.tmod_eq_emod_of_nonneg (by omega)
   rw[ht2]at h
   have hne:(((u+1+v) % nr).toNat < nr)∧u.toNat≠((u+1+v) % nr).toNat:=by
    have h1:nr=2∨nr=3∨nr=4∨nr=5:=by omega
    rcases h1 with rfl|rfl|rfl|rfl<;>omega
   subst h
   refine⟨?_,ha.2⟩
   unfold pntB
   simp only
   rw[roleN_place hnr _ (by omega),roleN_place hnr _ hne.1,ha.1,decide_eq_true (show(0:Int)≤(u.toNat:Int) by omega),decide_eq_true (show(0:Int)≤(((u+1+v) % nr).toNat:Int) by omega),
    decide_eq_true (show rolesL.getD u.toNat ⟨#[]⟩≠rolesL.getD ((u+1+v) % nr).toNat ⟨#[]⟩from fun e=>hne.2 (roleN_inj hnr _ _ (by omega) hne.1 e))]
   simp
theorem anyV_okN{name:ByteArray}(hn:nameB name=true){types:List ByteArray}(ht:TypesOK types)(hl:types.length≤1000)(l:List Int)(k:Nat){nr:Nat}(hnr:2≤nr∧nr≤5):prtB (anyV name types l nr k).1=true∧PrtBig (anyV name types l nr k).1:=by
 have hr:=JQ l k (n:=6) (by omega) (by omega)
 have hI:((1+pkV l k 6).toNat:Int)=1+pkV l k 6:=by omega
 have hlen:(anyV name types l nr k).1.points.length=(1+pkV l k 6).toNat+1:=by simp[anyV,anyS_len]
 have hall:=anyS_okN (l:=l) (k:=pkA l k) ht hl hnr (m:=1+pkV l k 6) (by omega) (1+pkV l k 6).toNat
 obtain⟨ho,hnm,hrl⟩:=roleN_once hnr
 refine⟨?_,fun x hx a ha=>?_⟩
 ·unfold prtB
  rw[hlen,show(anyV name types l nr k).1.roles=rolesL.take nr from rfl,hrl]
  rw[show nameB (anyV name types l nr k).1.name=true from hn,decide_eq_true hnr.1,decide_eq_true hnr.2,ho,hnm,decide_eq_true (show 1≤(1+pkV l k 6).toNat+1 by omega),decide_eq_true (show(1+pkV l k 6).toNat+1≤24 by omega)]
  simp only[Bool.true_and,List.all_eq_true]
  intro x hx
  rw[show(((1+pkV l k 6).toNat+1:Nat):Int)=1+pkV l k 6+1 by omega]
  rcases List.mem_append.1 (show x∈_++[noPnt]from hx)with h|h
  ·exact(hall x h).1
  ·rw[List.mem_singleton]at h;subst h;rfl
 ·rcases List.mem_append.1 (show x∈_++[noPnt]from hx)with h|h
  ·exact Nat.le_trans ((hall x h).2 a ha) (by decide)
  ·rw[List.mem_singleton]at h;subst h;cases ha
end Go.Sy
