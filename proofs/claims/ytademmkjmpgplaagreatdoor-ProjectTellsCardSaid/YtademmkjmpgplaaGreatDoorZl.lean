/- Contracts: layer 8's protocol of whatever numbers. -/
import Derived.Test.YtademmkjmpgplaaGreatDoorJk
import Derived.Test.YtademmkjmpgplaaGreatDoorYa
set_option linter.unusedSimpArgs false
set_option linter.unusedVariables false
set_option linter.unusedSectionVars false
namespace Go.Sy
open Go.Proofs
set_option maxRecDepth 100000
attribute [local irreducible] SOps Goes DOps EOps GOps
set_option maxHeartbeats 4000000 in
theorem prot8A_c{l:List Int}{p:Prt}{q:Nat}(h0:0 < l.length)(hbig:l.length * 8≤140737488355328)
 (hp:Con Tryz.prog 34 [[intsT l,.int .i64 0]] [.one (.ptr G7 0),C1 (.str ⟨#[112]⟩),C1 (Q8 types8)] (.v (Ag p.cs)) [J5 l q])(p0:Prt):
 Con Tryz.prog 12 [] [Ag p0.cs,C1 (intsT l)] (.v (Ag p.cs)) []:=by
 refine J2 (c:=_) Tryz.func12 rfl rfl rfl (by decide) fun w M0 H Z=>?_
 refine g_len 1 rfl fun hll=>?_
 simp only[List.length_map]at hll
 repeat'(first|refine gc_ rfl ?_|(refine G1 ?_;refine G0 th rfl ?_)|(refine G9 mix rfl rfl ?_;refine G3 th rfl ?_)|(refine G5 mix rfl rfl ?_;refine GJ th rfl ?_)|refine G2 ?_|refine G4 ?_|refine G6 ?_ rfl rfl|((first|refine G8 rfl rfl ?_ ?_|refine GG rfl rfl rfl ?_ ?_|refine Q1 rfl ?_ ?_)<;>intro hb<;>(try simp only[hbL]at hb)<;>first|(exfalso;omega)|refine G0 th rfl ?_|refine G3 th rfl ?_|skip)|((first|refine s_callN (new_c l hbig) rfl rfl rfl rfl rfl rfl rfl ?_|refine Q4 hp [9] rfl rfl rfl rfl rfl rfl rfl rfl rfl rfl ?_|(refine s_freeze 10 rfl rfl ?_;refine s_leT 10 (.v (C1 (Q8 types8))) rfl (.v (.one (.c (.nn true 1 _)))) ?_));refine G0 th rfl ?_))
 all_goals first
  |(exfalso;simp only[List.length_map]at hb;omega)
  |(refine QQ th Tryz.func12 (.inr ⟨_,rfl⟩) rfl rfl rfl ?_ rfl
    exact .refl _)
set_option maxHeartbeats 4000000 in
theorem prot8B_c{l:List Int}{p:Prt}{q:Nat}(h0:0 < l.length)(hbig:l.length * 8≤140737488355328)(hnm:p.name=⟨#[112]⟩)
 (hp:ConM Tryz.prog 34 [(G7,.box ((J5 l 0).map SC.c))] [.one (.ptr G7 0),C1 (.str ⟨#[112]⟩),C1 (Q8 types8)]
   (fun _:PV=>True) (fun v=>.v (.agg [.c (.str ⟨#[112]⟩),.c (.val v.1),.c (.val v.2)])) (fun v=>[(G7,.box ((J5 l q).map SC.c)),(22,.pool 9 1 [(v.1,p.roles.map fun s=>[CT.str s])]),(200,.pool 52 3 [(v.2,p.points.map Pnt.cs)])]))(p0:Prt):
 Con Tryz.prog 12 [] [Ag p0.cs,C1 (intsT l)] (.v (Ag p.cs)) []:=by
 rw[show p.cs=[.str ⟨#[112]⟩,Q8 p.roles,pointsC p.points] by rw[←hnm]]
 refine J2 (c:=_) Tryz.func12 rfl rfl rfl (by decide) fun w M0 H Z=>?_
 refine g_len 1 rfl fun hll=>?_
 simp only[List.length_map]at hll
 repeat'(first|refine gc_ rfl ?_|(refine G1 ?_;refine G0 th rfl ?_)|(refine G9 mix rfl rfl ?_;refine G3 th rfl ?_)|(refine G5 mix rfl rfl ?_;refine GJ th rfl ?_)|refine G2 ?_|refine G4 ?_|refine G6 ?_ rfl rfl|((first|refine G8 rfl rfl ?_ ?_|refine GG rfl rfl rfl ?_ ?_|refine Q1 rfl ?_ ?_)<;>intro hb<;>(try simp only[hbL]at hb)<;>first|(exfalso;omega)|refine G0 th rfl ?_|refine G3 th rfl ?_|skip)|((first|refine s_callN (new_c l hbig) rfl rfl rfl rfl rfl rfl rfl ?_|(refine s_freeze 10 rfl rfl ?_;refine s_leT 10 (.v (C1 (Q8 types8))) rfl (.v (.one (.c (.nn true 1 _)))) ?_)|refine s_callM hp [(G7,9)] rfl rfl rfl rfl ⟨rfl,trivial⟩ ⟨rfl,rfl,rfl,rfl,rfl⟩ (fun _=>⟨rfl,rfl,rfl,rfl,rfl,rfl,rfl⟩) (fun _=>rfl) (fun _=>rfl) rfl rfl rfl (fun v _=>?_));refine G0 th rfl ?_))
 all_goals first
  |(exfalso;simp only[List.length_map]at hb;omega)
  |(refine g_freezeB 22 4 1 rfl rfl rfl rfl rfl rfl rfl ?_
    refine g_freezeB 200 4 2 rfl rfl rfl rfl rfl rfl rfl ?_
    refine QQ th Tryz.func12 (.inr ⟨_,rfl⟩) rfl rfl rfl ?_ rfl
    exact .refl _)
set_option maxHeartbeats 4000000 in
theorem prot8N_c(p:Prt):Con Tryz.prog 12 [] [Ag p.cs,C1 (intsT [])] (.v (Ag p.cs)) []:=by
 refine J2 (c:=_) Tryz.func12 rfl rfl rfl (by decide) fun w M0 H Z=>?_
 repeat'(first|refine gc_ rfl ?_|(refine G1 ?_;refine G0 th rfl ?_)|(refine G9 mix rfl rfl ?_;refine G3 th rfl ?_)|(refine G5 mix rfl rfl ?_;refine GJ th rfl ?_)|refine G2 ?_|refine G4 ?_|refine G6 ?_ rfl rfl|((first|refine G8 rfl rfl ?_ ?_|refine GG rfl rfl rfl ?_ ?_|refine Q1 rfl ?_ ?_)<;>intro hb<;>(try simp only[hbL]at hb)<;>first|(exfalso;omega)|refine G0 th rfl ?_|refine G3 th rfl ?_|skip)|refine QQ th Tryz.func12 (.inr ⟨_,rfl⟩) rfl rfl rfl ?_ rfl)
 all_goals first|(exfalso;revert hb;simp;done)|exact .refl _
theorem prot8_any{p:Prt}(hB:PrtBig p)(made:List Int)(hbig:made.length * 8≤140737488355328):
 ∃x,PrtBig x∧Con Tryz.prog 12 [] [Ag p.cs,C1 (intsT made)] (.v (Ag x.cs)) []:=by
 by_cases h0:0 < made.length
 ·have hr:=JQ made 0 (n:=4) (by omega) (by omega)
  have h4:pkV made 0 4=0∨pkV made 0 4=1∨pkV made 0 4=2∨pkV made 0 4=3:=by omega
  rcases h4 with h|h|h|h
  ·refine⟨_,?_,prot8A_c h0 hbig (prot0_c ⟨#[112]⟩ types8 (by decide) made 0 (Nat.zero_le _) h) p⟩
   exact(anyV_okN (by decide) types8_ok (by decide) _ _ (by omega)).2
  ·obtain⟨h2,h5,_⟩:=manyV_le made 0
   refine⟨(rndV ⟨#[112]⟩ types8 made (manyV made 0) (pkA made (pkA made 0))).1,?_,prot8B_c h0 hbig rfl (prot1_c ⟨#[112]⟩ types8 (by decide) made 0 (Nat.zero_le _) h) p⟩
   exact(rndV_ok (by decide) types8_ok (by decide) _ _ ⟨h2,by omega⟩).2
  ·refine⟨_,?_,prot8A_c h0 hbig (prot2_c ⟨#[112]⟩ types8 (by decide) made 0 (Nat.zero_le _) h) p⟩
   exact(anyV_ok (by decide) types8_ok (by decide) _ _).2
  ·refine⟨(rndV ⟨#[112]⟩ types8 made 3 (pkA made 0)).1,?_,prot8B_c h0 hbig rfl (prot3_c ⟨#[112]⟩ types8 (by decide) made 0 (Nat.zero_le _) h) p⟩
   exact(rndV_ok (by decide) types8_ok (by decide) _ _ (by omega)).2
 ·have:made=[]:=List.length_eq_zero_iff.1 (by omega)
  subst this
  exact⟨p,hB,prot8N_c p⟩
end Go.Sy
