/- Contracts: reparteemake.Protocol where the first number picks rounds of two to four roles; layer 7's protocol of 1 :: made, its rows one's own. -/
import Derived.Test.YtademmkjmpgplaaGreatDoorWq
import Derived.Test.YtademmkjmpgplaaGreatDoorWy
set_option linter.unusedSimpArgs false
set_option linter.unusedVariables false
set_option linter.unusedSectionVars false
namespace Go.Sy
open Go.Proofs
set_option maxRecDepth 100000
attribute [local irreducible] SOps Goes DOps EOps GOps FOps
theorem rnd_c(name:ByteArray)(types:List ByteArray)(ht:types.length≤1000)(l:List Int)(many k:Nat)(hm:2≤many∧many≤4)(hk:k≤l.length):
 ConM Tryz.prog 68 [(G7,.box ((J5 l k).map SC.c))] [.one (.ptr G7 0),C1 (.str name),C1 (.int .i64 (many:Int)),C1 (Q8 types)]
  (fun _:PV=>True) (fun v=>.v (.agg [.c (.str name),.c (.val v.1),.c (.val v.2)])) (fun v=>[(G7,.box ((J5 l (rndV name types l many k).2).map SC.c)),(22,.pool 9 1 [(v.1,(rolesL.take many).map fun s=>[CT.str s])]),(200,.pool 52 3 [(v.2,(rndV name types l many k).1.points.map Pnt.cs)])]):=by
 have h3:many=2∨many=3∨many=4:=by omega
 by_cases hb:pkV l (pkA l (pkA l k)) 2=1
 ·rcases h3 with rfl|rfl|rfl
  ·exact rnd2t_c name types ht l k hk hb
  ·exact rnd3t_c name types ht l k hk hb
  ·exact rnd4t_c name types ht l k hk hb
 ·rcases h3 with rfl|rfl|rfl
  ·exact rnd2f_c name types ht l k hk hb
  ·exact rnd3f_c name types ht l k hk hb
  ·exact rnd4f_c name types ht l k hk hb
def manyV(l:List Int)(k:Nat):Nat:=(2+pkV l (pkA l k) 3).toNat
theorem manyV_le(l:List Int)(k:Nat):2≤manyV l k∧manyV l k≤4∧(2+pkV l (pkA l k) 3:Int)=(manyV l k:Int):=by
 have h:=JQ l (pkA l k) (n:=3) (by omega) (by omega)
 unfold manyV
 omega
set_option maxHeartbeats 16000000 in
theorem prot1_c(name:ByteArray)(types:List ByteArray)(ht:types.length≤1000)(l:List Int)(k:Nat)(hk:k≤l.length)(h1:pkV l k 4=1):
 ConM Tryz.prog 34 [(G7,.box ((J5 l k).map SC.c))] [.one (.ptr G7 0),C1 (.str name),C1 (Q8 types)]
  (fun _:PV=>True) (fun v=>.v (.agg [.c (.str name),.c (.val v.1),.c (.val v.2)])) (fun v=>[(G7,.box ((J5 l (rndV name types l (manyV l k) (pkA l (pkA l k))).2).map SC.c)),(22,.pool 9 1 [(v.1,(rolesL.take (manyV l k)).map fun s=>[CT.str s])]),(200,.pool 52 3 [(v.2,(rndV name types l (manyV l k) (pkA l (pkA l k))).1.points.map Pnt.cs)])]):=by
 have hp:=pickx_c l k hk 4 (by omega) (by omega)
 rw[h1]at hp
 have hp2:=pickx_c l (pkA l k) (JZ hk) 3 (by omega) (by omega)
 have hpr:=JQ l (pkA l k) (n:=3) (by omega) (by omega)
 obtain⟨hm2,hm4,hmI⟩:=manyV_le l k
 have hr:=rnd_c name types ht l (manyV l k) (pkA l (pkA l k)) ⟨hm2,hm4⟩ (JZ (JZ hk))
 refine conM_of (c:=_) Tryz.func34 rfl rfl rfl (by decide) rfl fun w M0 H Z hd=>?_
 obtain⟨q,hq⟩:∃q,q=rndV name types l (manyV l k) (pkA l (pkA l k)):=⟨_,rfl⟩
 rw[←hq]at hr⊢
 repeat'(first|refine gc_ rfl ?_|(refine G1 ?_;refine G0 th rfl ?_)|(refine G9 mix rfl rfl ?_;refine G3 th rfl ?_)|(refine G5 mix rfl rfl ?_;refine GJ th rfl ?_)|refine G2 ?_|refine G4 ?_|refine G6 ?_ rfl rfl|((first|refine G8 rfl rfl ?_ ?_|refine GG rfl rfl rfl ?_ ?_|refine Q1 rfl ?_ ?_)<;>intro hb<;>(try simp only[hbL]at hb)<;>first|(exfalso;omega)|refine G0 th rfl ?_|refine G3 th rfl ?_|skip)|((first|refine Q4 hp [G7] rfl rfl rfl rfl rfl rfl rfl rfl rfl rfl ?_|refine Q4 hp2 [G7] rfl rfl rfl rfl rfl rfl rfl rfl rfl rfl ?_|(refine QW rfl rfl rfl rfl rfl rfl (by omega) ?_;rw[hmI])|refine s_callM hr [(G7,G7)] rfl rfl rfl rfl ⟨rfl,trivial⟩ ⟨rfl,rfl,rfl,rfl,rfl⟩ (fun _=>⟨rfl,rfl,rfl,rfl,rfl,rfl,rfl⟩) (fun _=>rfl) (fun _=>rfl) rfl rfl rfl (fun v _=>?_));refine G0 th rfl ?_))
 all_goals first|(exfalso;revert hb;simp;done)|exact JW (hd:=hd) th Tryz.func34 v (.inr ⟨_,rfl⟩) rfl rfl rfl rfl ⟨rfl,rfl,rfl,trivial⟩ rfl rfl rfl trivial
end Go.Sy
