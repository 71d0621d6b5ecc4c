/- Contracts of the reference: Role. -/
import Derived.Test.YtademmkjmpgplaaGreatDoorZi
import Derived.Test.YtademmkjmpgplaaGreatDoorZc
import Derived.Test.YtademmkjmpgplaaGreatDoorMj3
set_option linter.unusedSimpArgs false
set_option linter.unusedVariables false
set_option linter.unusedSectionVars false
namespace Go.Sy
open Go.Proofs
set_option maxRecDepth 100000
attribute [local irreducible] SOps Goes DOps EOps FOps GOps
set_option maxHeartbeats 16000000 in
theorem roleR_c(p:Prt)(hB:PrtBig p)(role:ByteArray):Con Tryz.prog 14 [] [Ag p.cs,C1 (.str role)] (locT (roleE p role)) []:=by
 have hmay:=pmayR_c p hB
 have hhas:Con Tryz.prog 42 [] [C1 (Q8 p.roles),C1 (.str role)] (Rv (.bool (hasB p.roles role))) []:=hasR_c p.roles role
 cases hv:prtB p with
 |false=>
  rw[hv]at hmay
  rw[roleE_form (by rw[hv];simp)]
  refine J2 (c:=_) Tryz.func14 rfl rfl rfl (by decide) fun w M0 H Z=>?_
  repeat'(first|refine gc_ rfl ?_|(refine G1 ?_;refine G0 th rfl ?_)|(refine G9 mix rfl rfl ?_;refine G3 th rfl ?_)|(refine G5 mix rfl rfl ?_;refine GJ th rfl ?_)|refine G2 ?_|refine G4 ?_|refine G6 ?_ rfl rfl|((first|refine G8 rfl rfl ?_ ?_|refine GG rfl rfl rfl ?_ ?_|refine Q1 rfl ?_ ?_)<;>intro hb<;>(try simp only[hbL]at hb)<;>first|(exfalso;omega)|refine G0 th rfl ?_|refine G3 th rfl ?_|skip)|refine QQ th Tryz.func14 (.inr ⟨_,rfl⟩) rfl rfl rfl ?_ rfl|(refine Q4 hmay [] rfl rfl rfl rfl rfl rfl rfl rfl rfl rfl ?_;refine G0 th rfl ?_))
  all_goals first|exact le_noLoc 800|(exfalso;revert hb;simp;done)
 |true=>
  rw[hv]at hmay
  cases hh:hasB p.roles role with
  |false=>
   rw[hh]at hhas
   rw[roleE_form (by rw[hh];simp)]
   refine J2 (c:=_) Tryz.func14 rfl rfl rfl (by decide) fun w M0 H Z=>?_
   repeat'(first|refine gc_ rfl ?_|(refine G1 ?_;refine G0 th rfl ?_)|(refine G9 mix rfl rfl ?_;refine G3 th rfl ?_)|(refine G5 mix rfl rfl ?_;refine GJ th rfl ?_)|refine G2 ?_|refine G4 ?_|refine G6 ?_ rfl rfl|((first|refine G8 rfl rfl ?_ ?_|refine GG rfl rfl rfl ?_ ?_|refine Q1 rfl ?_ ?_)<;>intro hb<;>(try simp only[hbL]at hb)<;>first|(exfalso;omega)|refine G0 th rfl ?_|refine G3 th rfl ?_|skip)|refine QQ th Tryz.func14 (.inr ⟨_,rfl⟩) rfl rfl rfl ?_ rfl|((first|refine Q4 hmay [] rfl rfl rfl rfl rfl rfl rfl rfl rfl rfl ?_|refine Q4 hhas [] rfl rfl rfl rfl rfl rfl rfl rfl rfl rfl ?_);refine G0 th rfl ?_))
   all_goals first|exact le_noLoc 800|(exfalso;revert hb;simp;done)
  |true=>
   rw[hh]at hhas
   obtain⟨hn1,hn2⟩:=role_name hv hh
   have hz1:=nameB_size hn1
   have hz2:=nameB_size hn2
   have hpl:=prt_len hv
   have hS0:SeerOK p []:=⟨⟨List.nodup_nil,by simp⟩,fun m hm=>by cases hm⟩
   have hlook:=lookR_c p hv role (.slice none 0 0) [] (by simp) [0] (by simp)
   have hro:roleE p role=if(JY p role [] [0]).1.2=0 then
    if(roleS p role 41 0 [] (JY p role [] [0]).2).2=0 then(⟨dotN p.name role,(roleS p role 41 0 [] (JY p role [] [0]).2).1⟩,0)else(noLoc,(roleS p role 41 0 [] (JY p role [] [0]).2).2)
    else(noLoc,(JY p role [] [0]).1.2):=by unfold roleE;rw[hv,hh];rfl
   have hF0:FromN p role (JY p role [] [0]).2:=FromN.look (S:=[]) (fun m hm=>by cases hm) _
   have hO0:SetsOK (JY p role [] [0]).2:=look_ok hS0.sets _
   obtain⟨⟨⟨i0,e0⟩,S0⟩,hL⟩:∃L,L=JY p role [] [0]:=⟨_,rfl⟩
   unfold lookT at hlook
   rw[←hL]at hlook hro hF0 hO0
   simp only at hlook hro hF0 hO0
   refine J2 (c:=_) Tryz.func14 rfl rfl rfl (by decide) fun w M0 H Z=>?_
   repeat'((fail_if_success refine g_atR 4 rfl ?_);first|refine gc_ rfl ?_|(refine G1 ?_;refine G0 th rfl ?_)|(refine G9 mix rfl rfl ?_;refine G3 th rfl ?_)|(refine G5 mix rfl rfl ?_;refine GJ th rfl ?_)|refine G2 ?_|refine G4 ?_|refine G6 ?_ rfl rfl|((first|refine G8 rfl rfl ?_ ?_|refine GG rfl rfl rfl ?_ ?_|refine Q1 rfl ?_ ?_)<;>intro hb<;>(try simp only[hbL]at hb)<;>first|(exfalso;omega)|refine G0 th rfl ?_|refine G3 th rfl ?_|skip)|((first|refine Q4 hmay [] rfl rfl rfl rfl rfl rfl rfl rfl rfl rfl ?_|refine Q4 hhas [] rfl rfl rfl rfl rfl rfl rfl rfl rfl rfl ?_);refine G0 th rfl ?_))
   all_goals try(exfalso;revert hb;simp;done)
   refine g_newPool 190 26 1 rfl rfl ?_
   refine g_nilPool 190 rfl rfl rfl rfl ?_
   refine g_nilVal 27 4 rfl rfl ?_
   repeat'(first|refine gc_ rfl ?_|(refine G1 ?_;refine G0 th rfl ?_)|(refine G9 mix rfl rfl ?_;refine G3 th rfl ?_)|(refine G5 mix rfl rfl ?_;refine GJ th rfl ?_)|refine G2 ?_|refine G4 ?_|refine G6 ?_ rfl rfl|((first|refine G8 rfl rfl ?_ ?_|refine GG rfl rfl rfl ?_ ?_|refine Q1 rfl ?_ ?_)<;>intro hb<;>(try simp only[hbL]at hb)<;>first|(exfalso;omega)|refine G0 th rfl ?_|refine G3 th rfl ?_|skip)|((first|(refine s_freeze 30 rfl rfl ?_;refine s_leT 30 (.v (C1 (intsT [0]))) rfl (.v (.one (.c (.nn true 1 _)))) ?_)|refine s_callM hlook [(G7,27),(1,190)] rfl rfl rfl rfl ⟨rfl,rfl,trivial⟩ ⟨rfl,rfl,rfl,rfl,rfl⟩ (fun _=>⟨rfl,rfl,rfl,rfl,rfl,rfl,rfl⟩) (fun _=>rfl) (fun _=>rfl) rfl rfl rfl (fun v0 _=>?_));refine G0 th rfl ?_)|(refine s_cat rfl rfl rfl rfl rfl rfl (by first|omega|(simp only[ByteArray.size_append,show(ByteArray.mk #[46]).size=1 from rfl];omega)) ?_;refine G0 th rfl ?_))
   ·rw[hro,if_neg (by assumption)]
    refine QQ th Tryz.func14 (.inr ⟨_,rfl⟩) rfl rfl rfl ?_ rfl
    exact le_noLoc _
   have he0:e0=0:=by assumption
   rw[if_pos he0]at hro
   obtain⟨RS,hRS⟩:∃RS,RS=roleS p role 41 0 [] S0:=⟨_,rfl⟩
   rw[←hRS]at hro
   refine g_adoptB 9 1 191 48 3 rfl rfl rfl rfl ?_
   refine g_loop2 (fun(i:Nat) (s:List Trn×List (List Int)×Value)=>s.1.length=i∧i≤s.2.1.length∧FromN p role s.2.1∧SetsOK s.2.1∧RS=roleS p role (41 - i) i s.1 s.2.1)
    (fun i _=>[(4,.v (.one (.ptr 4 0))),(5,.v (C1 (.int .i64 0))),(6,.v (.one (.ptr 27 0))),(9,.v (.one (.ptr 9 0))),(10,.v (C1 (.int .i64 (i:Int))))])
    (fun _ s=>[(191,.arr false 48 3 (s.1.map Trn.cs)),(9,.box [.c (.str (dotN p.name role)),.own 191]),(4,.box [.c (.str ⟨#[]⟩),.c .nils]),
      (27,.box [.c (.str p.name),.c (Q8 p.roles),.c (pointsC p.points),.c (.str role),.c (.val s.2.2)]),(190,.pool 26 1 [(s.2.2,rowsI s.2.1)])])
    (fun i _=>41 - i) 0 ([],S0,v0) ⟨rfl,Nat.zero_le _,hF0,hO0,hRS⟩
    (fun a w h=>h.sub (by exact⟨⟨_,rfl,.refl _⟩,⟨_,rfl,.refl _⟩,⟨_,rfl,.refl _⟩,⟨_,rfl,.refl _⟩,⟨_,rfl,GY rfl⟩,trivial⟩)
      (by exact⟨⟨_,rfl,le_arr rfl⟩,⟨_,rfl,.refl _⟩,⟨_,rfl,.refl _⟩,⟨_,rfl,.refl _⟩,⟨_,rfl,.refl _⟩,trivial⟩) rfl rfl rfl) (fun i s hi ih=>?_)
   obtain⟨out,S,v⟩:=s
   obtain⟨hol,hle,hF,hO,hst⟩:=hi
   simp only at hol hle hF hO hst⊢
   have hl40:=hO.len
   have hl1:((rowsI S).length:Int)=(S.length:Int):=by simp
   by_cases hlt:i < S.length
   ·have hx:(rowsI S)[i]? =some [intsT S[i]]:=by simp[hlt]
    obtain⟨l0,hl0⟩:=hF S[i] (List.getElem_mem hlt)
    obtain⟨_,hn24,hnr⟩:=near_small hv role l0
    rw[←hl0]at hn24 hnr
    have hinp:∀x∈S[i],inP (Q5 p x) role=true:=fun x hx=>near_isin (prt_in hv) (by rw[←hl0];exact hx)
    have hturn:=turnR_c p hv role hh v S hO S[i] hnr hinp hn24
    have hF2:=hF.turn S[i]
    have hO2:=turn_ok (p:=p) (role:=role) hO S[i]
    obtain⟨rg,hrg⟩:=turn_grows (p:=p) (role:=role) S S[i]
    rw[show 41 - i=(40 - i)+1 by omega,roleS,List.getElem?_eq_getElem hlt]at hst
    obtain⟨⟨⟨t2,e2⟩,S2⟩,hT⟩:∃L,L=turnS p role S S[i]:=⟨_,rfl⟩
    unfold turnT at hturn
    simp only[←hT]at hturn hF2 hO2 hst hrg
    have hih:=fun(h0:e2=0) v2=>ih (i+1) (out++[t2],S2,v2) ⟨by simp[hol],by simp only;rw[hrg,List.length_append];omega,hF2,hO2,by rw[hst,if_pos h0,show 41 - (i+1)=40 - i by omega]⟩ (by omega)
    have herr:=fun(h0:¬e2=0)=>(show RS=([],e2) by rw[hst,if_neg h0])
    clear ih hst
    obtain⟨nr,hnr2⟩:∃nr,nr=S[i]:=⟨_,rfl⟩
    rw[←hnr2]at hx hturn
    repeat'(first|refine gc_ rfl ?_|(refine G1 ?_;refine G0 th rfl ?_)|(refine G9 mix rfl rfl ?_;refine G3 th rfl ?_)|(refine G5 mix rfl rfl ?_;refine GJ th rfl ?_)|refine G2 ?_|refine G4 ?_|refine G6 ?_ rfl rfl|((first|refine G8 rfl rfl ?_ ?_|refine GG rfl rfl rfl ?_ ?_|refine Q1 rfl ?_ ?_)<;>intro hb<;>(try simp only[hbL]at hb)<;>first|(exfalso;omega)|refine G0 th rfl ?_|refine G3 th rfl ?_|skip)|((first|refine s_plen th 190 0 rfl rfl rfl rfl rfl rfl rfl rfl _ hl1 ?_|refine s_pidx th (r:=190) rfl rfl rfl rfl rfl rfl rfl rfl rfl rfl 0 rfl i rfl (by simpa using hlt) ?_|refine s_pload th (r:=190) rfl rfl rfl rfl rfl rfl rfl rfl 0 rfl hx rfl ?_|refine s_callM hturn [(G7,27),(1,190)] rfl rfl rfl rfl ⟨rfl,rfl,trivial⟩ ⟨rfl,rfl,rfl,rfl,rfl⟩ (fun _=>⟨rfl,rfl,rfl,rfl,rfl,rfl,rfl⟩) (fun _=>rfl) (fun _=>rfl) rfl rfl rfl (fun v2 _=>?_));refine G0 th rfl ?_)|(refine s_anyB 9 1 rfl ?_;refine s_append th rfl rfl rfl rfl rfl rfl rfl rfl rfl rfl rfl rfl rfl rfl rfl (by constructor<;>simp<;>omega) ?_;refine G0 th rfl ?_)|(refine QW rfl rfl rfl rfl rfl rfl (by omega) ?_;refine G0 th rfl ?_))
    ·have he:=herr (by assumption)
     rw[he,if_neg (by assumption)]at hro
     rw[hro]
     refine QQ th Tryz.func14 (.inr ⟨_,rfl⟩) rfl rfl rfl ?_ rfl
     exact le_noLoc _
    ·exact QK (by exact⟨⟨_,rfl,.refl _⟩,⟨_,rfl,.refl _⟩,⟨_,rfl,.refl _⟩,⟨_,rfl,.refl _⟩,⟨_,rfl,GY (by omega)⟩,trivial⟩)
      (by exact⟨⟨_,rfl,le_arr (by simp)⟩,⟨_,rfl,.refl _⟩,⟨_,rfl,.refl _⟩,⟨_,rfl,.refl _⟩,⟨_,rfl,.refl _⟩,trivial⟩) rfl rfl rfl (hih (by assumption) v2)
   ·rw[show 41 - i=(40 - i)+1 by omega,roleS,List.getElem?_eq_none (by omega)]at hst
    simp only at hst
    clear ih
    rw[hst,if_pos rfl]at hro
    rw[hro]
    repeat'(first|(refine g_freeze 191 rfl rfl ?_)|refine gc_ rfl ?_|(refine G1 ?_;refine G0 th rfl ?_)|(refine G9 mix rfl rfl ?_;refine G3 th rfl ?_)|(refine G5 mix rfl rfl ?_;refine GJ th rfl ?_)|refine G2 ?_|refine G4 ?_|refine G6 ?_ rfl rfl|((first|refine G8 rfl rfl ?_ ?_|refine GG rfl rfl rfl ?_ ?_|refine Q1 rfl ?_ ?_)<;>intro hb<;>(try simp only[hbL]at hb)<;>first|(exfalso;omega)|refine G0 th rfl ?_|refine G3 th rfl ?_|skip)|(refine s_plen th 190 0 rfl rfl rfl rfl rfl rfl rfl rfl _ hl1 ?_;refine G0 th rfl ?_))
    refine QQ th Tryz.func14 (.inr ⟨_,rfl⟩) rfl rfl rfl ?_ rfl
    exact .refl _
end Go.Sy
