/- Contracts of the reference: the turn of a near set. -/
import Derived.Test.YtademmkjmpgplaaGreatDoorZh
set_option linter.unusedSimpArgs false
set_option linter.unusedVariables false
set_option linter.unusedSectionVars false
namespace Go.Sy
open Go.Proofs
set_option maxRecDepth 100000
attribute [local irreducible] SOps Goes DOps EOps FOps GOps
theorem kindOf_inj{a b:Bool}(h:kindOf a=kindOf b):a=b:=by cases a<;>cases b<;>simp[kindOf]at h⊢
section
variable {p:Prt} {role:ByteArray} {near:List Int}
theorem head_any(hv:prtB p=true)(hh:hasB p.roles role=true)(hin:∀x∈near,inP (Q5 p x) role=true){x0:Int}(h0:x0∈near):
 (near.any fun x=>decide (headX role (Q5 p x)≠headX role (Q5 p x0)))=near.any fun x=>decide (J4 p role x≠J4 p role x0):=by
 rw[Bool.eq_iff_iff,List.any_eq_true,List.any_eq_true]
 refine exists_congr fun x=>and_congr_right fun hx=>?_
 rw[decide_eq_true_eq,decide_eq_true_eq,head_side hv hh (hin x hx),head_side hv hh (hin x0 h0)]
 refine not_congr ⟨fun h=>?_,fun h=>by rw[h]⟩
 injection h with h1 h2
 exact Prod.ext (kindOf_inj h1) h2
end
abbrev tuM(p:Prt)(role:ByteArray)(v:Value)(S:List (List Int))(kd:Int)(pe:ByteArray)(vp vb:Value)(rows:List (List CT)):MM:=
 (291,.pool 58 4 [(vp,rows)])::(15,.box [.c (.int .i64 kd),.c (.str pe),.c (.val vb)])::(4,zBox)::workM p role v S
def tuET:Nat→Value→TM
 |1,v=>[(114,.v (C1 (.val v)))]
 |_,_=>[]
def tuMM(p:Prt)(role:ByteArray)(v:Value)(S:List (List Int))(kd:Int)(pe:ByteArray)(cc:Int×ByteArray)(vR:Value)(rows:List (List CT))(row:List CT):Nat→Value→MM
 |0,_=>(17,.box [.c (.int .i64 cc.1),.c (.str cc.2)])::tuM p role v S kd pe vR vR rows
 |1,w=>(17,.box [.c (.int .i64 cc.1),.c (.str cc.2)])::tuM p role v S kd pe w vR (rows++[row])
 |_,w=>(17,.box [.c (.int .i64 cc.1),.c (.str cc.2)])::tuM p role v S kd pe w w (rows++[row])
set_option maxHeartbeats 64000000 in
theorem turnR_c(p:Prt)(hv:prtB p=true)(role:ByteArray)(hh:hasB p.roles role=true)(v:Value)(S:List (List Int))(hS:SetsOK S)(near:List Int)
 (hnr:∀x∈near,0≤x∧x < (p.points.length:Int))(hin:∀x∈near,inP (Q5 p x) role=true)(hsl:near.length≤24):
 ConM Tryz.prog 44 (workM p role v S) [.one (.ptr G7 0),C1 (intsT near)] (fun _:Value=>True) (fun _=>turnT p role S near) (fun v'=>workM p role v' (turnS p role S near).2):=by
 by_cases hnil:near=[]
 ·subst hnil
  refine conM_of (c:=_) Tryz.func44 rfl rfl rfl (by decide) rfl fun w M0 H Z hd=>?_
  repeat'(first|(exfalso;exact hnI hb)|refine gc_ rfl ?_|(refine G1 ?_;refine G0 th rfl ?_)|(refine G9 mix rfl rfl ?_;refine G3 th rfl ?_)|(refine G5 mix rfl rfl ?_;refine GJ th rfl ?_)|refine G2 ?_|refine G4 ?_|refine G6 ?_ rfl rfl|((first|refine G8 rfl rfl ?_ ?_|refine GG rfl rfl rfl ?_ ?_|refine Q1 rfl ?_ ?_)<;>intro hb<;>(try simp only[hbL]at hb)<;>first|(exfalso;omega)|refine G0 th rfl ?_|refine G3 th rfl ?_|skip))
  all_goals first
   |(exfalso;revert hb;simp;done)
   |(refine g_leB 4 2 (armsC []) rfl rfl (.nil 4) ?_
     exact JW (hd:=hd) th Tryz.func44 v (.inr ⟨_,rfl⟩) rfl rfl rfl rfl ⟨rfl,rfl,trivial⟩ rfl rfl rfl trivial)
 obtain⟨x0,r,hne⟩:∃x0 r,near=x0::r:=by
  cases near with
  |nil=>exact absurd rfl hnil
  |cons x r=>exact⟨x,r,rfl⟩
 have hx0:x0∈near:=by rw[hne];exact List.mem_cons_self
 have hlen:0 < near.length:=List.length_pos_of_mem hx0
 have hg0:near.getD 0 0=x0:=by rw[hne];rfl
 have hhead:=headR_c p role v S near hnr hlen (by omega)
 have hlab:=labelsR_c p hv role v S near hnr hsl
 have hcarr:=fun v S s=>carriedR_c p role v S near hnr hsl s
 rw[says_count hv near]at hlab
 unfold headE at hhead
 rw[hg0,head_any hv hh hin hx0,head_side hv hh (hin x0 hx0)]at hhead
 have hnI:¬(near.length:Int)=0:=by omega
 cases hmix:near.any (fun x=>decide (J4 p role x≠J4 p role x0))with
 |true=>
  rw[hmix,if_pos rfl]at hhead
  unfold turnT
  rw[turn_mix hne hmix]
  clear hlab hcarr
  refine conM_of (c:=_) Tryz.func44 rfl rfl rfl (by decide) rfl fun w M0 H Z hd=>?_
  repeat'(first|(exfalso;exact hnI hb)|refine gc_ rfl ?_|(refine G1 ?_;refine G0 th rfl ?_)|(refine G9 mix rfl rfl ?_;refine G3 th rfl ?_)|(refine G5 mix rfl rfl ?_;refine GJ th rfl ?_)|refine G2 ?_|refine G4 ?_|refine G6 ?_ rfl rfl|((first|refine G8 rfl rfl ?_ ?_|refine GG rfl rfl rfl ?_ ?_|refine Q1 rfl ?_ ?_)<;>intro hb<;>(try simp only[hbL]at hb)<;>first|(exfalso;omega)|refine G0 th rfl ?_|refine G3 th rfl ?_|skip)|(refine s_callM hhead [] rfl rfl rfl rfl ⟨rfl,rfl,trivial⟩ ⟨rfl,rfl,rfl,rfl,rfl⟩ (fun _=>⟨rfl,rfl,rfl,rfl,rfl,rfl,rfl⟩) (fun _=>rfl) (fun _=>rfl) rfl rfl rfl (fun _ _=>?_);refine G0 th rfl ?_))
  all_goals first
   |(exfalso;exact hnI hb)|(exfalso;revert hb;simp;done)
   |(refine g_leB 4 2 (armsC []) rfl rfl (.nil 4) ?_
     exact JW (hd:=hd) th Tryz.func44 v (.inr ⟨_,rfl⟩) rfl rfl rfl rfl ⟨rfl,rfl,trivial⟩ rfl rfl rfl trivial)
 |false=>
  rw[hmix,if_neg (by simp)]at hhead
  have hsd:∃sd,sd=J4 p role x0:=⟨_,rfl⟩
  obtain⟨⟨s1,s2⟩,hs⟩:=hsd
  rw[←hs]at hhead
  have hkI:(kindOf s1=1)↔s1=true:=by cases s1<;>simp[kindOf]
  obtain⟨kd,hkd⟩:∃kd,kd=kindOf s1:=⟨_,rfl⟩
  rw[←hkd]at hkI
  simp only at hhead
  rw[←hkd]at hhead
  cases hsay:(s1&&near.any fun x=>decide (labsL (Q5 p x)≠allL p near))with
  |true=>
   rw[Bool.and_eq_true]at hsay
   have hk1:kd=1:=hkI.2 hsay.1
   unfold turnT
   rw[turn_says hne hmix (by rw[←hs];simp only[hsay.1,hsay.2,Bool.and_self])]
   rw[hsay.2]at hlab
   subst hk1
   clear hcarr hkI hkd
   generalize allL p near=A at hlab
   refine conM_of (c:=_) Tryz.func44 rfl rfl rfl (by decide) rfl fun w M0 H Z hd=>?_
   repeat'(first|(exfalso;exact hnI hb)|refine gc_ rfl ?_|(refine G1 ?_;refine G0 th rfl ?_)|(refine G9 mix rfl rfl ?_;refine G3 th rfl ?_)|(refine G5 mix rfl rfl ?_;refine GJ th rfl ?_)|refine G2 ?_|refine G4 ?_|refine G6 ?_ rfl rfl|((first|refine G8 rfl rfl ?_ ?_|refine GG rfl rfl rfl ?_ ?_|refine Q1 rfl ?_ ?_)<;>intro hb<;>(try simp only[hbL]at hb)<;>first|(exfalso;omega)|refine G0 th rfl ?_|refine G3 th rfl ?_|skip)|((first|refine s_callM hhead [] rfl rfl rfl rfl ⟨rfl,rfl,trivial⟩ ⟨rfl,rfl,rfl,rfl,rfl⟩ (fun _=>⟨rfl,rfl,rfl,rfl,rfl,rfl,rfl⟩) (fun _=>rfl) (fun _=>rfl) rfl rfl rfl (fun _ _=>?_)|refine s_callM hlab [] rfl rfl rfl rfl ⟨rfl,rfl,trivial⟩ ⟨rfl,rfl,rfl,rfl,rfl⟩ (fun _=>⟨rfl,rfl,rfl,rfl,rfl,rfl,rfl⟩) (fun _=>rfl) (fun _=>rfl) rfl rfl rfl (fun _ _=>?_));refine G0 th rfl ?_))
   all_goals first
    |(exfalso;exact hnI hb)|(exfalso;revert hb;simp;done)
    |(refine g_leB 4 2 (armsC []) rfl rfl (.nil 4) ?_
      exact JW (hd:=hd) th Tryz.func44 v (.inr ⟨_,rfl⟩) rfl rfl rfl rfl ⟨rfl,rfl,trivial⟩ rfl rfl rfl trivial)
  |false=>
   have hsay':((J4 p role x0).1&&near.any fun x=>decide (labsL (Q5 p x)≠allL p near))=false:=by rw[←hs];exact hsay
   have hal1:kd=1→(near.any fun x=>decide (labsL (Q5 p x)≠allL p near))=false:=fun h=>by
    rw[hkI.1 h,Bool.true_and]at hsay;exact hsay
   by_cases h6:6 < (allL p near).length
   ·unfold turnT
    rw[turn_large hne hmix hsay' h6]
    have h6I:(6:Int) < ((allL p near).length:Int):=by omega
    clear hcarr hkI hkd hsay hsay'
    generalize near.any (fun x=>decide (labsL (Q5 p x)≠allL p near))=al at hlab hal1
    generalize allL p near=A at hlab h6I
    have hkal:(kd=1∧al=false)∨¬kd=1:=by
     by_cases h:kd=1
     ·exact .inl ⟨h,hal1 h⟩
     ·exact .inr h
    clear hal1
    refine conM_of (c:=_) Tryz.func44 rfl rfl rfl (by decide) rfl fun w M0 H Z hd=>?_
    rcases hkal with⟨hk1,hal⟩|hk1
    ·skip
     repeat'(first|(exfalso;exact hnI hb)|(exfalso;exact hb hk1)|(exfalso;exact hb h6I)|(exfalso;revert hb;simp[hal];done)|refine gc_ rfl ?_|(refine G1 ?_;refine G0 th rfl ?_)|(refine G9 mix rfl rfl ?_;refine G3 th rfl ?_)|(refine G5 mix rfl rfl ?_;refine GJ th rfl ?_)|refine G2 ?_|refine G4 ?_|refine G6 ?_ rfl rfl|((first|refine G8 rfl rfl ?_ ?_|refine GG rfl rfl rfl ?_ ?_|refine Q1 rfl ?_ ?_)<;>intro hb<;>(try simp only[hbL]at hb)<;>first|(exfalso;omega)|refine G0 th rfl ?_|refine G3 th rfl ?_|skip)|((first|refine s_callM hhead [] rfl rfl rfl rfl ⟨rfl,rfl,trivial⟩ ⟨rfl,rfl,rfl,rfl,rfl⟩ (fun _=>⟨rfl,rfl,rfl,rfl,rfl,rfl,rfl⟩) (fun _=>rfl) (fun _=>rfl) rfl rfl rfl (fun _ _=>?_)|refine s_callM hlab [] rfl rfl rfl rfl ⟨rfl,rfl,trivial⟩ ⟨rfl,rfl,rfl,rfl,rfl⟩ (fun _=>⟨rfl,rfl,rfl,rfl,rfl,rfl,rfl⟩) (fun _=>rfl) (fun _=>rfl) rfl rfl rfl (fun _ _=>?_));refine G0 th rfl ?_))
     all_goals
      refine g_leB 4 2 (armsC []) rfl rfl (.nil 4) ?_
      exact JW (hd:=hd) th Tryz.func44 v (.inr ⟨_,rfl⟩) rfl rfl rfl rfl ⟨rfl,rfl,trivial⟩ rfl rfl rfl trivial
    ·skip
     repeat'(first|(exfalso;exact hnI hb)|(exfalso;exact hk1 hb)|(exfalso;exact hb h6I)|refine gc_ rfl ?_|(refine G1 ?_;refine G0 th rfl ?_)|(refine G9 mix rfl rfl ?_;refine G3 th rfl ?_)|(refine G5 mix rfl rfl ?_;refine GJ th rfl ?_)|refine G2 ?_|refine G4 ?_|refine G6 ?_ rfl rfl|((first|refine G8 rfl rfl ?_ ?_|refine GG rfl rfl rfl ?_ ?_|refine Q1 rfl ?_ ?_)<;>intro hb<;>(try simp only[hbL]at hb)<;>first|(exfalso;omega)|refine G0 th rfl ?_|refine G3 th rfl ?_|skip)|((first|refine s_callM hhead [] rfl rfl rfl rfl ⟨rfl,rfl,trivial⟩ ⟨rfl,rfl,rfl,rfl,rfl⟩ (fun _=>⟨rfl,rfl,rfl,rfl,rfl,rfl,rfl⟩) (fun _=>rfl) (fun _=>rfl) rfl rfl rfl (fun _ _=>?_)|refine s_callM hlab [] rfl rfl rfl rfl ⟨rfl,rfl,trivial⟩ ⟨rfl,rfl,rfl,rfl,rfl⟩ (fun _=>⟨rfl,rfl,rfl,rfl,rfl,rfl,rfl⟩) (fun _=>rfl) (fun _=>rfl) rfl rfl rfl (fun _ _=>?_));refine G0 th rfl ?_))
     all_goals
      refine g_leB 4 2 (armsC []) rfl rfl (.nil 4) ?_
      exact JW (hd:=hd) th Tryz.func44 v (.inr ⟨_,rfl⟩) rfl rfl rfl rfl ⟨rfl,rfl,trivial⟩ rfl rfl rfl trivial
   ·have hcall:=car_all hv near
    have hta:=fun h4=>turn_arms (S:=S) hne hmix hsay' h6 h4
    have hclash:=fun h4=>turn_clash (S:=S) hne hmix hsay' h6 h4
    have hone:=fun h4 {s} hs=>car_one (s:=s) hv (set:=near) h4 hs
    have h6I:¬(6:Int) < ((allL p near).length:Int):=by omega
    have hal2:kd=1→(!(near.any fun x=>decide (labsL (Q5 p x)≠allL p near)))=true:=fun h=>by rw[hal1 h];rfl
    rw[←hs]at hta
    clear hal1 hsay hsay'
    generalize near.any (fun x=>decide (labsL (Q5 p x)≠allL p near))=al at hlab hal2
    obtain⟨arr,harr⟩:∃arr,arr=armsN p near:=⟨_,rfl⟩
    rw[←harr]at hcall hta hclash hone
    have harl:arr.length≤144:=by rw[harr];have:=armsN_len hv near;omega
    obtain⟨A,hA⟩:∃A,A=allL p near:=⟨_,rfl⟩
    rw[←hA]at hlab hcall hta h6I hone h6
    clear hA harr hs hnr hin hx0 hmix
    unfold turnT
    refine conM_of (c:=_) Tryz.func44 rfl rfl rfl (by decide) rfl fun w M0 H Z hd=>?_
    have hkal:(kd=1∧al=false)∨¬kd=1:=by
     by_cases h:kd=1
     ·exact .inl ⟨h,by have:=hal2 h;simpa using this⟩
     ·exact .inr h
    rcases hkal with⟨hk1,hal⟩|hk1
    all_goals
     repeat'(first|(exfalso;exact hnI hb)|(exfalso;exact hb hk1)|(exfalso;exact hk1 hb)|(exfalso;exact h6I hb)|(exfalso;revert hb;simp[hal];done)|refine gc_ rfl ?_|(refine G1 ?_;refine G0 th rfl ?_)|(refine G9 mix rfl rfl ?_;refine G3 th rfl ?_)|(refine G5 mix rfl rfl ?_;refine GJ th rfl ?_)|refine G2 ?_|refine G4 ?_|refine G6 ?_ rfl rfl|((first|refine G8 rfl rfl ?_ ?_|refine GG rfl rfl rfl ?_ ?_|refine Q1 rfl ?_ ?_)<;>intro hb<;>(try simp only[hbL]at hb)<;>first|(exfalso;omega)|refine G0 th rfl ?_|refine G3 th rfl ?_|skip)|((first|refine s_callM hhead [] rfl rfl rfl rfl ⟨rfl,rfl,trivial⟩ ⟨rfl,rfl,rfl,rfl,rfl⟩ (fun _=>⟨rfl,rfl,rfl,rfl,rfl,rfl,rfl⟩) (fun _=>rfl) (fun _=>rfl) rfl rfl rfl (fun _ _=>?_)|refine s_callM hlab [] rfl rfl rfl rfl ⟨rfl,rfl,trivial⟩ ⟨rfl,rfl,rfl,rfl,rfl⟩ (fun _=>⟨rfl,rfl,rfl,rfl,rfl,rfl,rfl⟩) (fun _=>rfl) (fun _=>rfl) rfl rfl rfl (fun _ _=>?_));refine G0 th rfl ?_))
     refine J8 (fun i:Nat=>i≤A.length∧∀j (h:j < A.length),j < i→(carR p near A[j]).2=true)
      (fun i=>[(0,.v (.one (.ptr G7 0))),(1,.v (C1 (intsT near))),(4,.v (.one (.ptr 4 0))),(5,.v (C1 (.int .i64 0))),(6,.v (C1 (.int .i64 kd))),(7,.v (C1 (.str s2))),(9,.v (C1 (Q8 A))),(11,.v (C1 (.int .i64 (i:Int))))])
      (fun _=>(4,zBox)::workM p role v S)
      (fun i=>A.length - i) 0 ⟨Nat.zero_le _,fun j _ h=>by omega⟩
      (fun a w h=>h.sub (by exact⟨⟨_,rfl,.refl _⟩,⟨_,rfl,.refl _⟩,⟨_,rfl,.refl _⟩,⟨_,rfl,.refl _⟩,⟨_,rfl,.refl _⟩,⟨_,rfl,.refl _⟩,⟨_,rfl,.refl _⟩,⟨_,rfl,GY rfl⟩,trivial⟩) (by exact⟨⟨_,rfl,.refl _⟩,⟨_,rfl,.refl _⟩,⟨_,rfl,.refl _⟩,trivial⟩) rfl rfl rfl) (fun i hi ih=>?_)
     obtain⟨hi,hok⟩:=hi
     by_cases hlt:i < A.length
     ·have hx:(A.map fun s=>[CT.str s])[i]? =some [.str A[i]]:=by simp[hlt]
      have hcar:=hcarr v S A[i]
      have hAi:A[i]∈A:=List.getElem_mem hlt
      cases hc:(carR p near A[i]).2 with
      |true=>
       have hih:=ih (i+1) ⟨hlt,fun j h hj=>by
        by_cases hjk:j=i
        ·subst hjk;exact hc
        ·exact hok j h (by omega)⟩ (by omega)
       clear ih hok hta hclash hone hcall
       obtain⟨⟨⟨⟨c1,c2⟩,c3⟩,c4⟩,hq⟩:∃q,q=carR p near A[i]:=⟨_,rfl⟩
       rw[←hq]at hcar hc
       simp only at hc
       subst hc
       generalize A[i]=z at hx hcar
       repeat'(first|(exfalso;exact hnI hb)|refine gc_ rfl ?_|(refine G1 ?_;refine G0 th rfl ?_)|(refine G9 mix rfl rfl ?_;refine G3 th rfl ?_)|(refine G5 mix rfl rfl ?_;refine GJ th rfl ?_)|refine G2 ?_|refine G4 ?_|refine G6 ?_ rfl rfl|((first|refine G8 rfl rfl ?_ ?_|refine GG rfl rfl rfl ?_ ?_|refine Q1 rfl ?_ ?_)<;>intro hb<;>(try simp only[hbL]at hb)<;>first|(exfalso;omega)|refine G0 th rfl ?_|refine G3 th rfl ?_|skip)|((first|refine K2 th rfl rfl rfl rfl rfl rfl rfl rfl rfl i _ rfl hx ?_|refine s_callM hcar [] rfl rfl rfl rfl ⟨rfl,rfl,trivial⟩ ⟨rfl,rfl,rfl,rfl,rfl⟩ (fun _=>⟨rfl,rfl,rfl,rfl,rfl,rfl,rfl⟩) (fun _=>rfl) (fun _=>rfl) rfl rfl rfl (fun _ _=>?_)|refine QW rfl rfl rfl rfl rfl rfl (by omega) ?_);refine G0 th rfl ?_))
       all_goals first|(exfalso;simp only[List.length_map]at hb;omega)|(exfalso;revert hb;simp;done)|exact QK (by exact⟨⟨_,rfl,.refl _⟩,⟨_,rfl,.refl _⟩,⟨_,rfl,.refl _⟩,⟨_,rfl,.refl _⟩,⟨_,rfl,.refl _⟩,⟨_,rfl,.refl _⟩,⟨_,rfl,.refl _⟩,⟨_,rfl,GY (by omega)⟩,trivial⟩) (by exact⟨⟨_,rfl,.refl _⟩,⟨_,rfl,.refl _⟩,⟨_,rfl,.refl _⟩,trivial⟩) rfl rfl rfl hih
      |false=>
       have hcl:clashB arr=true:=by
        cases hcb:clashB arr with
        |true=>rfl
        |false=>
         rw[hcb,Bool.not_false,List.all_eq_true]at hcall
         rw[hcall _ hAi]at hc;cases hc
       rw[hclash hcl]
       clear ih hok hta hclash hone hcall hcl hAi
       obtain⟨⟨⟨⟨c1,c2⟩,c3⟩,c4⟩,hq⟩:∃q,q=carR p near A[i]:=⟨_,rfl⟩
       rw[←hq]at hcar hc
       simp only at hc
       subst hc
       generalize A[i]=z at hx hcar
       repeat'(first|(exfalso;exact hnI hb)|refine gc_ rfl ?_|(refine G1 ?_;refine G0 th rfl ?_)|(refine G9 mix rfl rfl ?_;refine G3 th rfl ?_)|(refine G5 mix rfl rfl ?_;refine GJ th rfl ?_)|refine G2 ?_|refine G4 ?_|refine G6 ?_ rfl rfl|((first|refine G8 rfl rfl ?_ ?_|refine GG rfl rfl rfl ?_ ?_|refine Q1 rfl ?_ ?_)<;>intro hb<;>(try simp only[hbL]at hb)<;>first|(exfalso;omega)|refine G0 th rfl ?_|refine G3 th rfl ?_|skip)|((first|refine K2 th rfl rfl rfl rfl rfl rfl rfl rfl rfl i _ rfl hx ?_|refine s_callM hcar [] rfl rfl rfl rfl ⟨rfl,rfl,trivial⟩ ⟨rfl,rfl,rfl,rfl,rfl⟩ (fun _=>⟨rfl,rfl,rfl,rfl,rfl,rfl,rfl⟩) (fun _=>rfl) (fun _=>rfl) rfl rfl rfl (fun _ _=>?_));refine G0 th rfl ?_))
       all_goals first
        |(exfalso;simp only[List.length_map]at hb;omega)|(exfalso;revert hb;simp;done)
        |(refine g_leB 4 2 (armsC []) rfl rfl (.nil 4) ?_
          exact JW (hd:=hd) th Tryz.func44 v (.inr ⟨_,rfl⟩) rfl rfl rfl rfl ⟨rfl,rfl,trivial⟩ rfl rfl rfl trivial)
     ·have hcl:clashB arr=false:=by
       have:A.all (fun s=>(carR p near s).2)=true:=List.all_eq_true.2 fun s hs=>by
        obtain⟨j,hj,rfl⟩:=List.mem_iff_getElem.1 hs
        exact hok j hj (by omega)
       rw[this]at hcall
       simpa using hcall.symm
      have hta:=hta hcl
      have hone:=fun{s}=>hone hcl (s:=s)
      have hA6:A.length≤6:=by omega
      have hSt:armsS p role arr A [] S=armsS p role arr (A.drop 0) [] S:=rfl
      clear ih hok hclash hcall hcl
      rw[hta]
      clear hta
      simp only
      rw[←hkd]
      repeat'(first|refine gc_ rfl ?_|(refine G1 ?_;refine G0 th rfl ?_)|(refine G9 mix rfl rfl ?_;refine G3 th rfl ?_)|(refine G5 mix rfl rfl ?_;refine GJ th rfl ?_)|refine G2 ?_|refine G4 ?_|refine G6 ?_ rfl rfl|((first|refine G8 rfl rfl ?_ ?_|refine GG rfl rfl rfl ?_ ?_|refine Q1 rfl ?_ ?_)<;>intro hb<;>(try simp only[hbL]at hb)<;>first|(exfalso;omega)|refine G0 th rfl ?_|refine G3 th rfl ?_|skip))
      refine g_nilVal 15 2 rfl rfl ?_
      refine g_newPool 291 58 4 rfl rfl ?_
      refine g_nilPool 291 rfl rfl rfl rfl ?_
      refine g_loop2 (fun(k:Nat) (s:List Arm×List (List Int)×Value×Value)=>k≤A.length∧s.1.length≤k∧SetsOK s.2.1∧armsS p role arr A [] S=armsS p role arr (A.drop k) s.1 s.2.1)
       (fun k _=>[(0,.v (.one (.ptr G7 0))),(1,.v (C1 (intsT near))),(4,.v (.one (.ptr 4 0))),(5,.v (C1 (.int .i64 0))),(9,.v (C1 (Q8 A))),(15,.v (.one (.ptr 15 0))),(16,.v (C1 (.int .i64 (k:Int))))])
       (fun _ s=>tuM p role s.2.2.1 s.2.1 kd s2 s.2.2.2 s.2.2.2 (s.1.map Arm.cs))
       (fun k _=>A.length - k) 0 ([],S,v,.slice none 0 0) ⟨Nat.zero_le _,Nat.le_refl _,hS,hSt⟩
       (fun a w h=>h.sub (by exact⟨⟨_,rfl,.refl _⟩,⟨_,rfl,.refl _⟩,⟨_,rfl,.refl _⟩,⟨_,rfl,.refl _⟩,⟨_,rfl,.refl _⟩,⟨_,rfl,.refl _⟩,⟨_,rfl,GY rfl⟩,trivial⟩) (by(repeat refine⟨⟨_,rfl,.refl _⟩,?_⟩);trivial) rfl rfl rfl) (fun k s hk ih=>?_)
      obtain⟨out,S1,v1,vR⟩:=s
      obtain⟨hk,hol,hS1,hst⟩:=hk
      simp only at hol hS1 hst⊢
      by_cases hlt5:k < A.length
      ·have hx:(A.map fun s=>[CT.str s])[k]? =some [.str A[k]]:=by simp[hlt5]
       have hcar:=hcarr v1 S1 A[k]
       rw[hone (List.getElem_mem hlt5)]at hcar
       have hlook:=lookR_c p hv role v1 S1 hS1.len (nextN arr A[k]) (by have:=nextN_len arr A[k];omega)
       have hS2:=look_ok (p:=p) (role:=role) hS1 (nextN arr A[k])
       rw[List.drop_eq_getElem_cons hlt5,armsS]at hst
       obtain⟨⟨⟨i2,e2⟩,S2⟩,hL⟩:∃L,L=JY p role S1 (nextN arr A[k]):=⟨_,rfl⟩
       unfold lookT at hlook
       simp only[←hL]at hlook hS2 hst
       have hih:=fun(h0:e2=0) v2 vR2=>ih (k+1) (out++[⟨A[k],(carA arr A[k]).1,(carA arr A[k]).2,i2⟩],S2,v2,vR2) ⟨hlt5,by simp;omega,hS2,by rw[hst,if_pos h0]⟩ (by omega)
       have herr:=fun(h0:¬e2=0)=>(show armsS p role arr A [] S=(([],e2),S2) by rw[hst,if_neg h0])
       clear ih hst hL
       obtain⟨sk,hsk⟩:∃sk,sk=A[k]:=⟨_,rfl⟩
       rw[←hsk]at hx hcar hlook hih
       obtain⟨cc,hcc⟩:∃cc,cc=carA arr sk:=⟨_,rfl⟩
       rw[←hcc]at hcar hih
       obtain⟨nx,hnx2⟩:∃nx,nx=nextN arr sk:=⟨_,rfl⟩
       rw[←hnx2]at hcar hlook
       obtain⟨c1,c2⟩:=cc
       repeat'((fail_if_success refine g_atR 25 rfl ?_);first|refine gc_ rfl ?_|(refine G1 ?_;refine G0 th rfl ?_)|(refine G9 mix rfl rfl ?_;refine G3 th rfl ?_)|(refine G5 mix rfl rfl ?_;refine GJ th rfl ?_)|refine G2 ?_|refine G4 ?_|refine G6 ?_ rfl rfl|((first|refine G8 rfl rfl ?_ ?_|refine GG rfl rfl rfl ?_ ?_|refine Q1 rfl ?_ ?_)<;>intro hb<;>(try simp only[hbL]at hb)<;>first|(exfalso;omega)|refine G0 th rfl ?_|refine G3 th rfl ?_|skip)|((first|refine K2 th rfl rfl rfl rfl rfl rfl rfl rfl rfl k _ rfl hx ?_|refine s_callM hcar [] rfl rfl rfl rfl ⟨rfl,rfl,trivial⟩ ⟨rfl,rfl,rfl,rfl,rfl⟩ (fun _=>⟨rfl,rfl,rfl,rfl,rfl,rfl,rfl⟩) (fun _=>rfl) (fun _=>rfl) rfl rfl rfl (fun _ _=>?_)|refine s_callM hlook [] rfl rfl rfl rfl ⟨rfl,rfl,trivial⟩ ⟨rfl,rfl,rfl,rfl,rfl⟩ (fun _=>⟨rfl,rfl,rfl,rfl,rfl,rfl,rfl⟩) (fun _=>rfl) (fun _=>rfl) rfl rfl rfl (fun v2 _=>?_));refine G0 th rfl ?_))
       ·have he:=herr (by assumption)
        rw[he,if_neg (by assumption)]
        refine g_leB 4 2 (armsC []) rfl rfl (.nil 4) ?_
        exact JW (hd:=hd) th Tryz.func44 v2 (.inr ⟨_,rfl⟩) rfl rfl rfl rfl ⟨rfl,rfl,trivial⟩ rfl rfl rfl trivial
       ·have hih2:=hih (by assumption) v2
        clear hih herr hlook hcar
        refine QK (tm':=[(0,.v (.one (.ptr G7 0))),(1,.v (C1 (intsT near))),(4,.v (.one (.ptr 4 0))),(5,.v (C1 (.int .i64 0))),(9,.v (C1 (Q8 A))),(15,.v (.one (.ptr 15 0))),(16,.v (C1 (.int .i64 (k:Int)))),(17,.v (.one (.ptr 17 0))),(20,.v (C1 (.int .i64 i2)))])
                 (mm':=tuMM p role v2 S2 kd s2 (c1,c2) vR (out.map Arm.cs) [.str sk,.int .i64 c1,.str c2,.int .i64 i2] 0 vR)
                 (by(repeat refine⟨⟨_,rfl,.refl _⟩,?_⟩);trivial)
                 (by(repeat refine⟨⟨_,rfl,.refl _⟩,?_⟩);trivial) rfl rfl rfl ?_
        refine g_drawF (ι:=Value) [10,12] [291] tuET (tuMM p role v2 S2 kd s2 (c1,c2) vR (out.map Arm.cs) [.str sk,.int .i64 c1,.str c2,.int .i64 i2]) vR mix rfl (fun k x hk=>by match k,hk with|0,_|1,_=>(refine GQ ?_;repeat (first|exact trivial|refine⟨rfl,?_⟩))) rfl (fun k x=>by match k with|0|1|_+2=>rfl) rfl rfl (by simp) rfl rfl ?_
        refine Q2 th rfl ?_
        repeat'(first|refine gc_ rfl ?_|(refine G1 ?_;refine G0 th rfl ?_)|(refine G9 mix rfl rfl ?_;refine G3 th rfl ?_)|(refine G5 mix rfl rfl ?_;refine GJ th rfl ?_)|refine G2 ?_|refine G4 ?_|refine G6 ?_ rfl rfl|((first|refine G8 rfl rfl ?_ ?_|refine GG rfl rfl rfl ?_ ?_|refine Q1 rfl ?_ ?_)<;>intro hb<;>(try simp only[hbL]at hb)<;>first|(exfalso;omega)|refine G0 th rfl ?_|refine G3 th rfl ?_|skip)|((first|refine f_idx th rfl rfl rfl rfl rfl rfl rfl rfl rfl rfl k _ rfl hx ?_|refine f_lit th rfl rfl rfl rfl rfl rfl rfl rfl rfl rfl rfl rfl rfl (.refl _) ?_);refine Q2 th rfl ?_)|(refine FOps.nil ⟨GK rfl (fun x=>?_) (GK rfl (fun x=>?_) Effs.nil),fun v=>?_⟩))
        ·exact J0 (i:=291) th rfl rfl rfl rfl rfl rfl rfl rfl rfl rfl rfl rfl rfl rfl rfl rfl 0 rfl (by constructor<;>simp<;>omega) (fun v'=>v') (fun _=>rfl) (fun _=>rfl)
        ·exact ef_store (i:=15) th rfl rfl rfl rfl rfl rfl rfl rfl rfl rfl rfl rfl
        ·have hih3:=hih2 v
         repeat'(first|refine gc_ rfl ?_|(refine G1 ?_;refine G0 th rfl ?_)|(refine G9 mix rfl rfl ?_;refine G3 th rfl ?_)|(refine G5 mix rfl rfl ?_;refine GJ th rfl ?_)|refine G2 ?_|refine G4 ?_|refine G6 ?_ rfl rfl|((first|refine G8 rfl rfl ?_ ?_|refine GG rfl rfl rfl ?_ ?_|refine Q1 rfl ?_ ?_)<;>intro hb<;>(try simp only[hbL]at hb)<;>first|(exfalso;omega)|refine G0 th rfl ?_|refine G3 th rfl ?_|skip)|(refine QW rfl rfl rfl rfl rfl rfl (by omega) ?_;refine G0 th rfl ?_))
         exact QK (by exact⟨⟨_,rfl,.refl _⟩,⟨_,rfl,.refl _⟩,⟨_,rfl,.refl _⟩,⟨_,rfl,.refl _⟩,⟨_,rfl,.refl _⟩,⟨_,rfl,.refl _⟩,⟨_,rfl,GY (by omega)⟩,trivial⟩) (by exact⟨⟨_,rfl,le_poolQ (by simp)⟩,⟨_,rfl,.refl _⟩,⟨_,rfl,.refl _⟩,⟨_,rfl,.refl _⟩,⟨_,rfl,.refl _⟩,trivial⟩) rfl rfl rfl hih3
      ·rw[List.drop_eq_nil_of_le (by omega),armsS]at hst
       clear ih
       rw[hst,if_pos rfl]
       refine g_freezeB 291 15 2 rfl rfl rfl rfl rfl rfl rfl ?_
       repeat'(first|refine gc_ rfl ?_|(refine G1 ?_;refine G0 th rfl ?_)|(refine G9 mix rfl rfl ?_;refine G3 th rfl ?_)|(refine G5 mix rfl rfl ?_;refine GJ th rfl ?_)|refine G2 ?_|refine G4 ?_|refine G6 ?_ rfl rfl|((first|refine G8 rfl rfl ?_ ?_|refine GG rfl rfl rfl ?_ ?_|refine Q1 rfl ?_ ?_)<;>intro hb<;>(try simp only[hbL]at hb)<;>first|(exfalso;omega)|refine G0 th rfl ?_|refine G3 th rfl ?_|skip))
       all_goals first|(exfalso;simp only[List.length_map]at hb;omega)|exact JW (hd:=hd) th Tryz.func44 v1 (.inr ⟨_,rfl⟩) rfl rfl rfl rfl ⟨rfl,rfl,trivial⟩ rfl rfl rfl trivial
end Go.Sy
