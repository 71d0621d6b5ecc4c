/- Contracts of the reference: All. -/
import Derived.Test.YtademmkjmpgplaaGreatDoorZj
import Derived.Test.YtademmkjmpgplaaGreatDoorMj3
set_option linter.unusedSimpArgs false
set_option linter.unusedVariables false
set_option linter.unusedSectionVars false
namespace Go.Sy
open Go.Proofs
set_option maxRecDepth 100000
attribute [local irreducible] SOps Goes DOps EOps FOps GOps
set_option maxHeartbeats 8000000 in
theorem allR_c(p:Prt)(hB:PrtBig p):Con Tryz.prog 16 [] [Ag p.cs] (allT (allE p)) []:=by
 have hmay:=pmayR_c p hB
 unfold allE
 cases hv:prtB p with
 |false=>
  rw[hv]at hmay
  rw[if_neg (by decide)]
  refine J2 (c:=_) Tryz.func16 rfl rfl rfl (by decide) fun w M0 H Z=>?_
  repeat'(first|refine gc_ rfl ?_|(refine G1 ?_;refine G0 th rfl ?_)|(refine G9 mix rfl rfl ?_;refine G3 th rfl ?_)|(refine G5 mix rfl rfl ?_;refine GJ th rfl ?_)|refine G2 ?_|refine G4 ?_|refine G6 ?_ rfl rfl|((first|refine G8 rfl rfl ?_ ?_|refine GG rfl rfl rfl ?_ ?_|refine Q1 rfl ?_ ?_)<;>intro hb<;>(try simp only[hbL]at hb)<;>first|(exfalso;omega)|refine G0 th rfl ?_|refine G3 th rfl ?_|skip)|refine QQ th Tryz.func16 (.inr ⟨_,rfl⟩) rfl rfl rfl ?_ rfl|(refine Q4 hmay [] rfl rfl rfl rfl rfl rfl rfl rfl rfl rfl ?_;refine G0 th rfl ?_))
  all_goals first|exact le_noAll 0 800|(exfalso;revert hb;simp;done)
 |true=>
  rw[hv]at hmay
  rw[if_pos rfl]
  have hpl:=prt_len hv
  obtain⟨RS,hRS⟩:∃RS,RS=allS p 0 p.roles []:=⟨_,rfl⟩
  rw[←hRS]
  refine J2 (c:=_) Tryz.func16 rfl rfl rfl (by decide) fun w M0 H Z=>?_
  repeat'(first|refine gc_ rfl ?_|(refine G1 ?_;refine G0 th rfl ?_)|(refine G9 mix rfl rfl ?_;refine G3 th rfl ?_)|(refine G5 mix rfl rfl ?_;refine GJ th rfl ?_)|refine G2 ?_|refine G4 ?_|refine G6 ?_ rfl rfl|((first|refine G8 rfl rfl ?_ ?_|refine GG rfl rfl rfl ?_ ?_|refine Q1 rfl ?_ ?_)<;>intro hb<;>(try simp only[hbL]at hb)<;>first|(exfalso;omega)|refine G0 th rfl ?_|refine G3 th rfl ?_|skip)|(refine Q4 hmay [] rfl rfl rfl rfl rfl rfl rfl rfl rfl rfl ?_;refine G0 th rfl ?_))
  all_goals try(exfalso;revert hb;simp;done)
  refine g_adopt 5 290 32 2 rfl rfl rfl ?_
  refine g_loop2 (fun(i:Nat) (out:List Loc)=>i≤p.roles.length∧out.length=i∧RS=allS p i (p.roles.drop i) out)
   (fun i _=>[(1,.v (.one (.ptr 1 0))),(5,.v (.one (.own 290))),(6,.v (C1 (.int .i64 (i:Int))))])
   (fun _ out=>[(290,.arr false 32 2 (out.map Loc.cs)),(1,.box (p.cs.map SC.c))])
   (fun i _=>p.roles.length - i) 0 [] ⟨Nat.zero_le _,rfl,hRS⟩
   (fun a w h=>h.sub (by exact⟨⟨_,rfl,.refl _⟩,⟨_,rfl,.refl _⟩,⟨_,rfl,GY rfl⟩,trivial⟩)
     (by exact⟨⟨_,rfl,le_arr rfl⟩,⟨_,rfl,.refl _⟩,trivial⟩) rfl rfl rfl) (fun i out hi ih=>?_)
  obtain⟨hi,hol,hst⟩:=hi
  by_cases hlt:i < p.roles.length
  ·have hx:(p.roles.map fun s=>[CT.str s])[i]? =some [.str p.roles[i]]:=by simp[hlt]
   have hrole:=roleR_c p hB p.roles[i]
   rw[List.drop_eq_getElem_cons hlt,allS]at hst
   obtain⟨⟨l1,e1⟩,hR⟩:∃R,R=roleE p p.roles[i]:=⟨_,rfl⟩
   rw[←hR]at hrole hst
   simp only at hrole hst
   have hih:=fun(h0:e1=0)=>ih (i+1) (out++[l1]) ⟨hlt,by simp[hol],by rw[hst,if_pos h0]⟩ (by omega)
   have herr:=fun(h0:¬e1=0)=>(show RS=(([],(i:Int)),e1) by rw[hst,if_neg h0])
   clear ih hst
   repeat'(first|refine gc_ rfl ?_|(refine G1 ?_;refine G0 th rfl ?_)|(refine G9 mix rfl rfl ?_;refine G3 th rfl ?_)|(refine G5 mix rfl rfl ?_;refine GJ th rfl ?_)|refine G2 ?_|refine G4 ?_|refine G6 ?_ rfl rfl|((first|refine G8 rfl rfl ?_ ?_|refine GG rfl rfl rfl ?_ ?_|refine Q1 rfl ?_ ?_)<;>intro hb<;>(try simp only[hbL]at hb)<;>first|(exfalso;omega)|refine G0 th rfl ?_|refine G3 th rfl ?_|skip)|((first|refine e_idx th rfl rfl rfl rfl rfl rfl rfl rfl rfl i _ rfl hx ?_|refine e_call hrole rfl rfl rfl rfl rfl rfl rfl ?_);refine GJ th rfl ?_)|(refine s_append th rfl rfl rfl rfl rfl rfl rfl rfl rfl rfl rfl rfl rfl rfl rfl (by constructor<;>simp<;>omega) ?_;refine G0 th rfl ?_)|(refine QW rfl rfl rfl rfl rfl rfl (by omega) ?_;refine G0 th rfl ?_))
   ·rw[herr (by assumption)]
    refine QQ th Tryz.func16 (.inr ⟨_,rfl⟩) rfl rfl rfl ?_ rfl
    exact le_noAll _ _
   ·exact QK (by exact⟨⟨_,rfl,.refl _⟩,⟨_,rfl,.refl _⟩,⟨_,rfl,GY (by omega)⟩,trivial⟩)
     (by exact⟨⟨_,rfl,le_arr (by simp)⟩,⟨_,rfl,.refl _⟩,trivial⟩) rfl rfl rfl (hih (by assumption))
  ·rw[List.drop_eq_nil_of_le (by omega),allS]at hst
   clear ih
   rw[hst]
   repeat'(first|(refine g_freeze 290 rfl rfl ?_)|refine gc_ rfl ?_|(refine G1 ?_;refine G0 th rfl ?_)|(refine G9 mix rfl rfl ?_;refine G3 th rfl ?_)|(refine G5 mix rfl rfl ?_;refine GJ th rfl ?_)|refine G2 ?_|refine G4 ?_|refine G6 ?_ rfl rfl|((first|refine G8 rfl rfl ?_ ?_|refine GG rfl rfl rfl ?_ ?_|refine Q1 rfl ?_ ?_)<;>intro hb<;>(try simp only[hbL]at hb)<;>first|(exfalso;omega)|refine G0 th rfl ?_|refine G3 th rfl ?_|skip))
   refine QQ th Tryz.func16 (.inr ⟨_,rfl⟩) rfl rfl rfl ?_ rfl
   exact .refl _
end Go.Sy
