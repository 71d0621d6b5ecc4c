/- The law ProjectTells. -/
import Derived.Test.YtademmkjmpgplaaGreatDoorZk
import Derived.Test.YtademmkjmpgplaaGreatDoorZl
set_option linter.unusedSimpArgs false
set_option linter.unusedVariables false
set_option linter.unusedSectionVars false
namespace Go.Sy
open Go.Proofs
set_option maxRecDepth 100000
attribute [local irreducible] SOps Goes DOps EOps GOps
def fewP(p:Prt):Bool:=p.points.all (fun x=>decide (x.arms.length≤20))&&(decide (p.points.length≤40)&&decide (p.roles.length≤20))
set_option maxHeartbeats 4000000 in
theorem few8_c(p:Prt):Con Tryz.prog 11 [] [Ag p.cs] (Rv (.bool (fewP p))) []:=by
 refine J2 (c:=_) Tryz.func11 rfl rfl rfl (by decide) fun w M0 H Z=>?_
 repeat'(first|refine gc_ rfl ?_|(refine G1 ?_;refine G0 th rfl ?_)|(refine G9 mix rfl rfl ?_;refine G3 th rfl ?_)|(refine G5 mix rfl rfl ?_;refine GJ th rfl ?_)|refine G2 ?_|refine G4 ?_|refine G6 ?_ rfl rfl|((first|refine G8 rfl rfl ?_ ?_|refine GG rfl rfl rfl ?_ ?_|refine Q1 rfl ?_ ?_)<;>intro hb<;>(try simp only[hbL]at hb)<;>first|(exfalso;omega)|refine G0 th rfl ?_|refine G3 th rfl ?_|skip))
 refine g_lenB 1 2 rfl rfl fun hll=>?_
 simp only[List.length_map]at hll
 refine J8 (fun i:Nat=>i≤p.points.length∧(p.points.take i).all (fun x=>decide (x.arms.length≤20))=true)
  (fun i=>[(1,.v (.one (.ptr 1 0))),(3,.v (C1 (.int .i64 (i:Int))))]) (fun _=>[(1,.box (p.cs.map SC.c))])
  (fun i=>p.points.length - i) 0 ⟨Nat.zero_le _,rfl⟩
  (fun a w h=>h.sub (by exact⟨⟨_,rfl,.refl _⟩,⟨_,rfl,GY rfl⟩,trivial⟩) (by exact⟨⟨_,rfl,.refl _⟩,trivial⟩) rfl rfl rfl) (fun i hi ih=>?_)
 obtain⟨hi,hok⟩:=hi
 by_cases hlt:i < p.points.length
 ·have hx:(p.points.map Pnt.cs)[i]? =some (p.points[i]).cs:=by simp[hlt]
  by_cases h20:(p.points[i]).arms.length≤20
  ·have hih:=ih (i+1) ⟨hlt,all_snoc hlt hok (by simpa using h20)⟩ (by omega)
   clear ih
   generalize p.points[i]=x at hx h20
   repeat'(first|refine gc_ rfl ?_|(refine G1 ?_;refine G0 th rfl ?_)|(refine G9 mix rfl rfl ?_;refine G3 th rfl ?_)|(refine G5 mix rfl rfl ?_;refine GJ th rfl ?_)|refine G2 ?_|refine G4 ?_|refine G6 ?_ rfl rfl|((first|refine G8 rfl rfl ?_ ?_|refine GG rfl rfl rfl ?_ ?_|refine Q1 rfl ?_ ?_)<;>intro hb<;>(try simp only[hbL]at hb)<;>first|(exfalso;omega)|refine G0 th rfl ?_|refine G3 th rfl ?_|skip)|((first|refine K2 th rfl rfl rfl rfl rfl rfl rfl rfl rfl i _ rfl hx ?_|refine QW rfl rfl rfl rfl rfl rfl (by omega) ?_);refine G0 th rfl ?_))
   all_goals first|(exfalso;simp only[List.length_map]at hb;omega)|exact QK (by exact⟨⟨_,rfl,.refl _⟩,⟨_,rfl,GY (by omega)⟩,trivial⟩) (by exact⟨⟨_,rfl,.refl _⟩,trivial⟩) rfl rfl rfl hih
  ·have hf:fewP p=false:=by
    unfold fewP
    rw[show p.points.all (fun x=>decide (x.arms.length≤20))=false from List.all_eq_false.2 ⟨p.points[i],List.getElem_mem hlt,by simpa using h20⟩];rfl
   rw[hf]
   clear ih
   generalize p.points[i]=x at hx h20
   repeat'(first|refine gc_ rfl ?_|(refine G1 ?_;refine G0 th rfl ?_)|(refine G9 mix rfl rfl ?_;refine G3 th rfl ?_)|(refine G5 mix rfl rfl ?_;refine GJ th rfl ?_)|refine G2 ?_|refine G4 ?_|refine G6 ?_ rfl rfl|((first|refine G8 rfl rfl ?_ ?_|refine GG rfl rfl rfl ?_ ?_|refine Q1 rfl ?_ ?_)<;>intro hb<;>(try simp only[hbL]at hb)<;>first|(exfalso;omega)|refine G0 th rfl ?_|refine G3 th rfl ?_|skip)|refine QQ th Tryz.func11 (.inr ⟨_,rfl⟩) rfl rfl rfl ?_ rfl|((first|refine K2 th rfl rfl rfl rfl rfl rfl rfl rfl rfl i _ rfl hx ?_|refine QW rfl rfl rfl rfl rfl rfl (by omega) ?_);refine G0 th rfl ?_))
   all_goals first|(exfalso;simp only[List.length_map]at hb;omega)|exact .refl _
 ·rw[List.take_of_length_le (by omega)]at hok
  unfold fewP
  rw[hok,Bool.true_and]
  clear ih
  repeat'(first|refine gc_ rfl ?_|(refine G1 ?_;refine G0 th rfl ?_)|(refine G9 mix rfl rfl ?_;refine G3 th rfl ?_)|(refine G5 mix rfl rfl ?_;refine GJ th rfl ?_)|refine G2 ?_|refine G4 ?_|refine G6 ?_ rfl rfl|((first|refine G8 rfl rfl ?_ ?_|refine GG rfl rfl rfl ?_ ?_|refine Q1 rfl ?_ ?_)<;>intro hb<;>(try simp only[hbL]at hb)<;>first|(exfalso;omega)|refine G0 th rfl ?_|refine G3 th rfl ?_|skip)|refine QQ th Tryz.func11 (.inr ⟨_,rfl⟩) rfl rfl rfl ?_ rfl)
  all_goals first
   |(exfalso;simp only[List.length_map]at hb;omega)
   |(refine le_ct ?_
     by_cases h1:p.points.length≤40
     ·rw[decide_eq_true h1];simp<;>omega
     ·rw[decide_eq_false h1];simp<;>omega)
theorem same8_t(a:Loc):Con Tryz.prog 17 [] [Ag a.cs,Ag a.cs] (Rv (.bool true)) []:=by
 have h:=same8_c a a
 simpa using h
set_option maxHeartbeats 16000000 in
theorem projectTells_c(p:Prt)(hB:PrtBig p)(made:List Int)(role:ByteArray)(hbig:made.length * 8≤140737488355328):
 Con Tryz.prog 3 [] [Ag p.cs,C1 (intsT made),C1 (.str role)] (Rv (.bool true)) []:=by
 have cf:=few8_c p
 obtain⟨x,hx,cp⟩:=prot8_any hB made hbig
 have c1:=role_c x hx role
 have c2:=roleR_c x hx role
 have c3:=all_c x hx
 have c4:=allR_c x hx
 generalize roleE x role=R at c1 c2
 generalize allE x=T at c3 c4
 obtain⟨l,e⟩:=R
 obtain⟨⟨L,at_⟩,e2⟩:=T
 have cs:=same8_t l
 generalize fewP p=fw at cf
 refine J2 (c:=_) Tryz.func3 rfl rfl rfl (by decide) fun w M0 H Z=>?_
 repeat'(first|(exfalso;revert hb;simp;done)|refine gc_ rfl ?_|(refine G1 ?_;refine G0 th rfl ?_)|(refine G9 mix rfl rfl ?_;refine G3 th rfl ?_)|(refine G5 mix rfl rfl ?_;refine GJ th rfl ?_)|refine G2 ?_|refine G4 ?_|refine G6 ?_ rfl rfl|((first|refine G8 rfl rfl ?_ ?_|refine GG rfl rfl rfl ?_ ?_|refine Q1 rfl ?_ ?_)<;>intro hb<;>(try simp only[hbL]at hb)<;>first|(exfalso;omega)|refine G0 th rfl ?_|refine G3 th rfl ?_|skip)|((first|refine Q4 first8_c [] rfl rfl rfl rfl rfl rfl rfl rfl rfl rfl ?_|refine Q4 cf [] rfl rfl rfl rfl rfl rfl rfl rfl rfl rfl ?_|refine Q4 cp [] rfl rfl rfl rfl rfl rfl rfl rfl rfl rfl ?_|refine Q4 c1 [] rfl rfl rfl rfl rfl rfl rfl rfl rfl rfl ?_|refine Q4 c2 [] rfl rfl rfl rfl rfl rfl rfl rfl rfl rfl ?_|refine Q4 c3 [] rfl rfl rfl rfl rfl rfl rfl rfl rfl rfl ?_|refine Q4 c4 [] rfl rfl rfl rfl rfl rfl rfl rfl rfl rfl ?_|refine Q4 cs [] rfl rfl rfl rfl rfl rfl rfl rfl rfl rfl ?_);refine G0 th rfl ?_))
 all_goals first
  |(refine QQ th Tryz.func3 (.inr ⟨_,rfl⟩) rfl rfl rfl ?_ rfl
    exact .refl _)
  |skip
 refine g_len 12 rfl fun hll=>?_
 simp only[List.length_map]at hll
 refine J8 (fun i:Nat=>i≤L.length)
  (fun i=>[(12,.v (C1 (locsC L))),(15,.v (C1 (locsC L))),(18,.v (C1 (.int .i64 (i:Int))))]) (fun _=>[])
  (fun i=>L.length - i) 0 (Nat.zero_le _)
  (fun a w h=>h.sub (by exact⟨⟨_,rfl,.refl _⟩,⟨_,rfl,.refl _⟩,⟨_,rfl,GY rfl⟩,trivial⟩) (by exact trivial) rfl rfl rfl) (fun i hi ih=>?_)
 by_cases hlt:i < L.length
 ·have hx:(L.map Loc.cs)[i]? =some (L[i]).cs:=by simp[hlt]
  have cs2:=same8_t L[i]
  have hih:=ih (i+1) hlt (by omega)
  clear ih
  generalize L[i]=z at hx cs2
  repeat'(first|(exfalso;revert hb;simp;done)|refine gc_ rfl ?_|(refine G1 ?_;refine G0 th rfl ?_)|(refine G9 mix rfl rfl ?_;refine G3 th rfl ?_)|(refine G5 mix rfl rfl ?_;refine GJ th rfl ?_)|refine G2 ?_|refine G4 ?_|refine G6 ?_ rfl rfl|((first|refine G8 rfl rfl ?_ ?_|refine GG rfl rfl rfl ?_ ?_|refine Q1 rfl ?_ ?_)<;>intro hb<;>(try simp only[hbL]at hb)<;>first|(exfalso;omega)|refine G0 th rfl ?_|refine G3 th rfl ?_|skip)|((first|refine d_idx th rfl rfl rfl rfl rfl rfl rfl rfl rfl i _ rfl hx ?_|refine d_call cs2 [] rfl rfl rfl rfl rfl rfl rfl rfl rfl rfl rfl ?_);refine G3 th rfl ?_)|(refine QW rfl rfl rfl rfl rfl rfl (by omega) ?_;refine G0 th rfl ?_))
  all_goals first|(exfalso;simp only[List.length_map]at hb;omega)|exact QK (by exact⟨⟨_,rfl,.refl _⟩,⟨_,rfl,.refl _⟩,⟨_,rfl,GY (by omega)⟩,trivial⟩) (by exact trivial) rfl rfl rfl hih
 ·clear ih
  repeat'(first|refine gc_ rfl ?_|(refine G1 ?_;refine G0 th rfl ?_)|(refine G9 mix rfl rfl ?_;refine G3 th rfl ?_)|(refine G5 mix rfl rfl ?_;refine GJ th rfl ?_)|refine G2 ?_|refine G4 ?_|refine G6 ?_ rfl rfl|((first|refine G8 rfl rfl ?_ ?_|refine GG rfl rfl rfl ?_ ?_|refine Q1 rfl ?_ ?_)<;>intro hb<;>(try simp only[hbL]at hb)<;>first|(exfalso;omega)|refine G0 th rfl ?_|refine G3 th rfl ?_|skip)|refine QQ th Tryz.func3 (.inr ⟨_,rfl⟩) rfl rfl rfl ?_ rfl)
  all_goals first|exact .refl _|(exfalso;simp only[List.length_map]at *;omega)
end Go.Sy
