/- Contracts: rows of names of the reference. -/
import Derived.Test.YtademmkjmpgplaaGreatDoorBn1
set_option linter.unusedSimpArgs false
set_option linter.unusedVariables false
set_option linter.unusedSectionVars false
namespace Go.Sy
open Go.Proofs
set_option maxRecDepth 100000
attribute [local irreducible] SOps Goes DOps EOps
set_option maxHeartbeats 4000000 in
theorem placeR_c(l:List ByteArray)(s:ByteArray):Con Tryz.prog 85 [] [C1 (Q8 l),C1 (.str s)] (Rv (.int .i64 (placeI l s))) []:=by
 refine J2 (c:=_) Tryz.func85 rfl rfl rfl (by decide) fun w M0 H Z=>?_
 refine g_len 0 rfl fun hll=>?_
 simp only[List.length_map]at hll
 repeat'(first|refine gc_ rfl ?_|(refine G1 ?_;refine G0 th rfl ?_)|(refine G9 mix rfl rfl ?_;refine G3 th rfl ?_)|(refine G5 mix rfl rfl ?_;refine GJ th rfl ?_)|refine G2 ?_|refine G4 ?_|refine G6 ?_ rfl rfl|((first|refine G8 rfl rfl ?_ ?_|refine GG rfl rfl rfl ?_ ?_|refine Q1 rfl ?_ ?_)<;>intro hb<;>(try simp only[hbL]at hb)<;>first|(exfalso;omega)|refine G0 th rfl ?_|refine G3 th rfl ?_|skip))
 refine J8 (fun k:Nat=>k≤l.length∧∀i (h:i < k) (h':i < l.length),decide (l[i]=s)=false)
  (fun k=>[(0,.v (C1 (Q8 l))),(0+1,.v (C1 (.str s))),(5,.v (C1 (.int .i64 (k:Int))))])
  (fun _=>[]) (fun k=>l.length - k) 0 ⟨Nat.zero_le _,fun i h=>by omega⟩
  (fun a w h=>h.sub (by exact⟨⟨_,rfl,.refl _⟩,⟨_,rfl,.refl _⟩,⟨_,rfl,GY rfl⟩,trivial⟩) (by exact trivial) rfl rfl rfl) (fun k hk ih=>?_)
 obtain⟨hk,ha⟩:=hk
 by_cases hlt:k < l.length
 ·have hx:(l.map fun s=>[CT.str s])[k]? =some [.str l[k]]:=by simp[hlt]
  repeat'(first|refine gc_ rfl ?_|(refine G1 ?_;refine G0 th rfl ?_)|(refine G9 mix rfl rfl ?_;refine G3 th rfl ?_)|(refine G5 mix rfl rfl ?_;refine GJ th rfl ?_)|refine G2 ?_|refine G4 ?_|refine G6 ?_ rfl rfl|((first|refine G8 rfl rfl ?_ ?_|refine GG rfl rfl rfl ?_ ?_|refine Q1 rfl ?_ ?_)<;>intro hb<;>(try simp only[hbL]at hb)<;>first|(exfalso;omega)|refine G0 th rfl ?_|refine G3 th rfl ?_|skip)|refine QQ th Tryz.func85 (.inr ⟨_,rfl⟩) rfl rfl rfl ?_ rfl|((first|refine K2 th rfl rfl rfl rfl rfl rfl rfl rfl rfl k _ rfl hx ?_|refine QW rfl rfl rfl rfl rfl rfl (by omega) ?_);refine G0 th rfl ?_))
  ·rw[show placeI l s=(k:Int)from idxG_hit hlt (fun i h=>ha i h (by omega)) (by simpa using hb)]
   exact .refl _
  ·exact QK (by exact⟨⟨_,rfl,.refl _⟩,⟨_,rfl,.refl _⟩,⟨_,rfl,GY (by omega)⟩,trivial⟩) (by exact trivial) rfl rfl rfl (ih (k+1) ⟨hlt,fun i h h'=>by
    by_cases hik:i=k
    ·subst hik;simpa using hb
    ·exact ha i (by omega) h'⟩ (by omega))
 ·have hke:k=l.length:=by omega
  subst hke
  repeat'(first|refine gc_ rfl ?_|(refine G1 ?_;refine G0 th rfl ?_)|(refine G9 mix rfl rfl ?_;refine G3 th rfl ?_)|(refine G5 mix rfl rfl ?_;refine GJ th rfl ?_)|refine G2 ?_|refine G4 ?_|refine G6 ?_ rfl rfl|((first|refine G8 rfl rfl ?_ ?_|refine GG rfl rfl rfl ?_ ?_|refine Q1 rfl ?_ ?_)<;>intro hb<;>(try simp only[hbL]at hb)<;>first|(exfalso;omega)|refine G0 th rfl ?_|refine G3 th rfl ?_|skip)|refine QQ th Tryz.func85 (.inr ⟨_,rfl⟩) rfl rfl rfl ?_ rfl)
  rw[show placeI l s=-1 from idxG_none (fun i h=>ha i h h)]
  exact .refl _
theorem hasR_c(l:List ByteArray)(s:ByteArray):Con Tryz.prog 42 [] [C1 (Q8 l),C1 (.str s)] (Rv (.bool (decide (placeI l s≥0)))) []:=by
 refine J2 (c:=_) Tryz.func42 rfl rfl rfl (by decide) fun w M0 H Z=>?_
 repeat'(first|refine gc_ rfl ?_|(refine G1 ?_;refine G0 th rfl ?_)|(refine G9 mix rfl rfl ?_;refine G3 th rfl ?_)|(refine G5 mix rfl rfl ?_;refine GJ th rfl ?_)|refine G2 ?_|refine G4 ?_|refine G6 ?_ rfl rfl|((first|refine G8 rfl rfl ?_ ?_|refine GG rfl rfl rfl ?_ ?_|refine Q1 rfl ?_ ?_)<;>intro hb<;>(try simp only[hbL]at hb)<;>first|(exfalso;omega)|refine G0 th rfl ?_|refine G3 th rfl ?_|skip)|refine QQ th Tryz.func42 (.inr ⟨_,rfl⟩) rfl rfl rfl ?_ rfl|(refine Q4 (placeR_c l s) [] rfl rfl rfl rfl rfl rfl rfl rfl rfl rfl ?_;refine G0 th rfl ?_))
 all_goals exact .refl _
theorem placeI_take{l:List ByteArray}{i:Nat}(hi:i < l.length):decide (placeI (l.take i) l[i]≥0)=!onceAt l i:=by
 have hg:(l[i]?).getD ⟨#[]⟩=l[i]:=by simp[hi]
 unfold onceAt
 rw[hg]
 by_cases h:∃j,∃h:j < i,l[j]'(by omega)=l[i]
 ·obtain⟨j,hj,he⟩:=h
  have h1:placeI (l.take i) l[i]≥0:=by
   unfold placeI idxG
   cases hf:(l.take i).findIdx? (fun x=>decide (x=l[i]))with
   |some k=>simp
   |none=>
    exfalso
    rw[List.findIdx?_eq_none_iff]at hf
    have:=hf (l[j]'(by omega)) (List.mem_take_iff_getElem.2 ⟨j,by omega,rfl⟩)
    simp[he]at this
  have h2:placeI l l[i]≠(i:Int):=by
   unfold placeI idxG
   cases hf:l.findIdx? (fun x=>decide (x=l[i]))with
   |none=>simp
   |some k=>
    rw[List.findIdx?_eq_some_iff_getElem]at hf
    obtain⟨_,_,h3⟩:=hf
    intro e
    simp only at e
    have hke:k=i:=by omega
    have:=h3 j (by omega)
    simp[he]at this
  simp[h1,h2]
 ·have h1:placeI (l.take i) l[i]=-1:=idxG_none fun j hj=>by
   simp only[List.length_take]at hj
   rw[List.getElem_take]
   simp only[decide_eq_false_iff_not]
   exact fun e=>h ⟨j,by omega,e⟩
  have h2:placeI l l[i]=(i:Int):=idxG_hit hi (fun j hj=>by
   simp only[decide_eq_false_iff_not]
   exact fun e=>h ⟨j,hj,e⟩) (by simp)
  rw[h1,h2];simp
set_option maxHeartbeats 4000000 in
theorem onceR_c(l:List ByteArray):Con Tryz.prog 83 [] [C1 (Q8 l)] (Rv (.bool (onceB l))) []:=by
 refine J2 (c:=_) Tryz.func83 rfl rfl rfl (by decide) fun w M0 H Z=>?_
 refine g_len 0 rfl fun hll=>?_
 simp only[List.length_map]at hll
 repeat'(first|refine gc_ rfl ?_|(refine G1 ?_;refine G0 th rfl ?_)|(refine G9 mix rfl rfl ?_;refine G3 th rfl ?_)|(refine G5 mix rfl rfl ?_;refine GJ th rfl ?_)|refine G2 ?_|refine G4 ?_|refine G6 ?_ rfl rfl|((first|refine G8 rfl rfl ?_ ?_|refine GG rfl rfl rfl ?_ ?_|refine Q1 rfl ?_ ?_)<;>intro hb<;>(try simp only[hbL]at hb)<;>first|(exfalso;omega)|refine G0 th rfl ?_|refine G3 th rfl ?_|skip))
 refine J8 (fun k:Nat=>k≤l.length∧∀i,i < k→onceAt l i=true)
  (fun k=>[(0,.v (C1 (Q8 l))),(3,.v (C1 (.int .i64 (k:Int))))])
  (fun _=>[]) (fun k=>l.length - k) 0 ⟨Nat.zero_le _,fun i h=>by omega⟩
  (fun a w h=>h.sub (by exact⟨⟨_,rfl,.refl _⟩,⟨_,rfl,GY rfl⟩,trivial⟩) (by exact trivial) rfl rfl rfl) (fun k hk ih=>?_)
 obtain⟨hk,ha⟩:=hk
 by_cases hlt:k < l.length
 ·have hx:(l.map fun s=>[CT.str s])[k]? =some [.str l[k]]:=by simp[hlt]
  have hat:=placeI_take hlt
  have hcon:=hasR_c (l.take k) l[k]
  rw[hat,show Q8 (l.take k)=.slice false 1 ((l.map fun s=>[CT.str s]).take k) by simp[List.map_take]]at hcon
  cases ho:onceAt l k with
  |true=>
   rw[ho]at hcon
   have hih:=ih (k+1) ⟨hlt,fun i h=>by
    by_cases hik:i=k
    ·subst hik;exact ho
    ·exact ha i (by omega)⟩ (by omega)
   repeat'(first|refine gc_ rfl ?_|(refine G1 ?_;refine G0 th rfl ?_)|(refine G9 mix rfl rfl ?_;refine G3 th rfl ?_)|(refine G5 mix rfl rfl ?_;refine GJ th rfl ?_)|refine G2 ?_|refine G4 ?_|refine G6 ?_ rfl rfl|((first|refine G8 rfl rfl ?_ ?_|refine GG rfl rfl rfl ?_ ?_|refine Q1 rfl ?_ ?_)<;>intro hb<;>(try simp only[hbL]at hb)<;>first|(exfalso;omega)|refine G0 th rfl ?_|refine G3 th rfl ?_|skip)|refine QQ th Tryz.func83 (.inr ⟨_,rfl⟩) rfl rfl rfl ?_ rfl|((first|(refine d_step (op_sliceTo (j:=k) th rfl rfl rfl rfl rfl rfl (by simp;omega) rfl rfl) rfl ?_)|refine d_idx th rfl rfl rfl rfl rfl rfl rfl rfl rfl k _ rfl hx ?_|refine d_call hcon [] rfl rfl rfl rfl rfl rfl rfl rfl rfl rfl rfl ?_);refine G3 th rfl ?_)|(refine QW rfl rfl rfl rfl rfl rfl (by omega) ?_;refine G0 th rfl ?_)|(exfalso;revert hb;simp;done))
   all_goals exact QK (by exact⟨⟨_,rfl,.refl _⟩,⟨_,rfl,GY (by omega)⟩,trivial⟩) (by exact trivial) rfl rfl rfl hih
  |false=>
   rw[ho]at hcon
   have hf:onceB l=false:=List.all_eq_false.2 ⟨k,List.mem_range.2 hlt,by rw[ho];simp⟩
   rw[hf]
   repeat'(first|refine gc_ rfl ?_|(refine G1 ?_;refine G0 th rfl ?_)|(refine G9 mix rfl rfl ?_;refine G3 th rfl ?_)|(refine G5 mix rfl rfl ?_;refine GJ th rfl ?_)|refine G2 ?_|refine G4 ?_|refine G6 ?_ rfl rfl|((first|refine G8 rfl rfl ?_ ?_|refine GG rfl rfl rfl ?_ ?_|refine Q1 rfl ?_ ?_)<;>intro hb<;>(try simp only[hbL]at hb)<;>first|(exfalso;omega)|refine G0 th rfl ?_|refine G3 th rfl ?_|skip)|refine QQ th Tryz.func83 (.inr ⟨_,rfl⟩) rfl rfl rfl ?_ rfl|((first|(refine d_step (op_sliceTo (j:=k) th rfl rfl rfl rfl rfl rfl (by simp;omega) rfl rfl) rfl ?_)|refine d_idx th rfl rfl rfl rfl rfl rfl rfl rfl rfl k _ rfl hx ?_|refine d_call hcon [] rfl rfl rfl rfl rfl rfl rfl rfl rfl rfl rfl ?_);refine G3 th rfl ?_)|(exfalso;revert hb;simp;done))
   all_goals exact .refl _
 ·have hke:k=l.length:=by omega
  subst hke
  repeat'(first|refine gc_ rfl ?_|(refine G1 ?_;refine G0 th rfl ?_)|(refine G9 mix rfl rfl ?_;refine G3 th rfl ?_)|(refine G5 mix rfl rfl ?_;refine GJ th rfl ?_)|refine G2 ?_|refine G4 ?_|refine G6 ?_ rfl rfl|((first|refine G8 rfl rfl ?_ ?_|refine GG rfl rfl rfl ?_ ?_|refine Q1 rfl ?_ ?_)<;>intro hb<;>(try simp only[hbL]at hb)<;>first|(exfalso;omega)|refine G0 th rfl ?_|refine G3 th rfl ?_|skip)|refine QQ th Tryz.func83 (.inr ⟨_,rfl⟩) rfl rfl rfl ?_ rfl)
  rw[show onceB l=true from List.all_eq_true.2 fun i hi=>ha i (List.mem_range.1 hi)]
  exact .refl _
end Go.Sy
