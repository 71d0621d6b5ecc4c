/- Contracts of the reference: Put. -/
import Derived.Test.YtademmkjmpgplaaGreatDoorZa
import Derived.Test.YtademmkjmpgplaaGreatDoorSymZu
set_option linter.unusedSimpArgs false
set_option linter.unusedVariables false
set_option linter.unusedSectionVars false
namespace Go.Sy
open Go.Proofs
set_option maxRecDepth 100000
attribute [local irreducible] SOps Goes DOps EOps
theorem insN_len(s:ByteArray):∀l:List ByteArray,(insN s l).length≤l.length+1
 |[]=>by simp[insN]
 |x::l=>by
  rw[insN]
  split
  ·have:=insN_len s l
   simp only[List.length_cons];omega
  ·split<;>simp
set_option maxHeartbeats 8000000 in
theorem put1R_c(l:List ByteArray)(s:ByteArray)(hl:l.length≤1000):Con Tryz.prog 129 [] [C1 (Q8 l),C1 (.str s)] (Rv (Q8 (insN s l))) []:=by
 refine J2 (c:=_) Tryz.func129 rfl rfl rfl (by decide) fun w M0 H Z=>?_
 repeat'(first|refine gc_ rfl ?_|(refine G1 ?_;refine G0 th rfl ?_)|(refine G9 mix rfl rfl ?_;refine G3 th rfl ?_)|(refine G5 mix rfl rfl ?_;refine GJ th rfl ?_)|refine G2 ?_|refine G4 ?_|refine G6 ?_ rfl rfl|((first|refine G8 rfl rfl ?_ ?_|refine GG rfl rfl rfl ?_ ?_|refine Q1 rfl ?_ ?_)<;>intro hb<;>(try simp only[hbL]at hb)<;>first|(exfalso;omega)|refine G0 th rfl ?_|refine G3 th rfl ?_|skip))
 refine J8 (fun k:Nat=>k≤l.length∧∀j (h:j < l.length),j < k→sLt l[j] s=true)
  (fun k=>[(0,.v (C1 (Q8 l))),(0+1,.v (C1 (.str s))),(5,.v (C1 (.int .i64 (k:Int))))]) (fun _=>[]) (fun k=>l.length - k) 0 ⟨Nat.zero_le _,fun j _ h=>by omega⟩
  (fun a w h=>h.sub (by exact⟨⟨_,rfl,.refl _⟩,⟨_,rfl,.refl _⟩,⟨_,rfl,GY rfl⟩,trivial⟩) (by exact trivial) rfl rfl rfl) (fun k hk ih=>?_)
 obtain⟨hk,ha⟩:=hk
 by_cases hlt:k < l.length
 ·have hx:(l.map fun s=>[CT.str s])[k]? =some [.str l[k]]:=by simp[hlt]
  cases hc:sLt l[k] s with
  |true=>
   have hih:=ih (k+1) ⟨hlt,fun j h hj=>by
    by_cases hjk:j=k
    ·subst hjk;exact hc
    ·exact ha j h (by omega)⟩ (by omega)
   clear ih
   generalize l[k]=z at hx hc
   repeat'(first|(exfalso;rename sLt z s=false=>h0;rw[hc]at h0;cases h0;done)|refine gc_ rfl ?_|(refine G1 ?_;refine G0 th rfl ?_)|(refine G9 mix rfl rfl ?_;refine G3 th rfl ?_)|(refine G5 mix rfl rfl ?_;refine GJ th rfl ?_)|refine G2 ?_|refine G4 ?_|refine G6 ?_ rfl rfl|((first|refine G8 rfl rfl ?_ ?_|refine GG rfl rfl rfl ?_ ?_|refine Q1 rfl ?_ ?_)<;>intro hb<;>(try simp only[hbL]at hb)<;>first|(exfalso;omega)|refine G0 th rfl ?_|refine G3 th rfl ?_|skip)|((first|refine K2 th rfl rfl rfl rfl rfl rfl rfl rfl rfl k _ rfl hx ?_|refine QW rfl rfl rfl rfl rfl rfl (by omega) ?_);refine G0 th rfl ?_))
   all_goals first|(exfalso;simp only[List.length_map]at hb;omega)|(exfalso;rw[hc]at hb;cases hb;done)|exact QK (by exact⟨⟨_,rfl,.refl _⟩,⟨_,rfl,.refl _⟩,⟨_,rfl,GY (by omega)⟩,trivial⟩) (by exact trivial) rfl rfl rfl hih
  |false=>
   have hat:=insN_at (s:=s) hk (fun j h hj=>ha j h hj) (fun _=>hc)
   rw[dif_pos hlt]at hat
   clear ih
   by_cases he:l[k]=s
   ·rw[if_pos he]at hat
    rw[hat]
    generalize l[k]=z at hx hc he
    repeat'(first|(exfalso;rename sLt z s=true=>h0;rw[hc]at h0;cases h0;done)|refine gc_ rfl ?_|(refine G1 ?_;refine G0 th rfl ?_)|(refine G9 mix rfl rfl ?_;refine G3 th rfl ?_)|(refine G5 mix rfl rfl ?_;refine GJ th rfl ?_)|refine G2 ?_|refine G4 ?_|refine G6 ?_ rfl rfl|((first|refine G8 rfl rfl ?_ ?_|refine GG rfl rfl rfl ?_ ?_|refine Q1 rfl ?_ ?_)<;>intro hb<;>(try simp only[hbL]at hb)<;>first|(exfalso;omega)|refine G0 th rfl ?_|refine G3 th rfl ?_|skip)|refine QQ th Tryz.func129 (.inr ⟨_,rfl⟩) rfl rfl rfl ?_ rfl|((first|refine K2 th rfl rfl rfl rfl rfl rfl rfl rfl rfl k _ rfl hx ?_|refine QW rfl rfl rfl rfl rfl rfl (by omega) ?_);refine G0 th rfl ?_))
    all_goals first|exact .refl _|(exfalso;simp only[List.length_map]at hb;omega)|(exfalso;rw[hc]at hb;cases hb;done)|(exfalso;exact hb he)
   ·rw[if_neg he]at hat
    rw[hat]
    generalize l[k]=z at hx hc he
    repeat'(first|(exfalso;rename sLt z s=true=>h0;rw[hc]at h0;cases h0;done)|refine gc_ rfl ?_|(refine G1 ?_;refine G0 th rfl ?_)|(refine G9 mix rfl rfl ?_;refine G3 th rfl ?_)|(refine G5 mix rfl rfl ?_;refine GJ th rfl ?_)|refine G2 ?_|refine G4 ?_|refine G6 ?_ rfl rfl|((first|refine G8 rfl rfl ?_ ?_|refine GG rfl rfl rfl ?_ ?_|refine Q1 rfl ?_ ?_)<;>intro hb<;>(try simp only[hbL]at hb)<;>first|(exfalso;omega)|refine G0 th rfl ?_|refine G3 th rfl ?_|skip)|((first|refine K2 th rfl rfl rfl rfl rfl rfl rfl rfl rfl k _ rfl hx ?_|(refine s_sliceTo th rfl rfl rfl rfl rfl rfl rfl rfl (k) rfl (by simp;omega) ?_)|(refine s_sliceFrom th rfl rfl rfl rfl rfl rfl rfl rfl rfl (k) rfl (by simp;omega) ?_));refine G0 th rfl ?_)|(refine s_appendN th 200 rfl rfl rfl rfl rfl rfl rfl rfl rfl rfl rfl rfl rfl rfl (by constructor<;>simp<;>omega) ?_;refine G0 th rfl ?_)|(refine s_append th rfl rfl rfl rfl rfl rfl rfl rfl rfl rfl rfl rfl rfl rfl rfl (by constructor<;>simp<;>omega) ?_;refine G0 th rfl ?_)|(refine s_appendF th rfl rfl rfl rfl rfl rfl rfl rfl rfl rfl rfl rfl rfl rfl (by constructor<;>simp<;>omega) ?_;refine G0 th rfl ?_))
    all_goals first|(exfalso;simp only[List.length_map]at hb;omega)|(exfalso;rw[hc]at hb;cases hb;done)|(exfalso;exact he hb)|skip
    refine g_freeze 200 rfl rfl ?_
    refine QQ th Tryz.func129 (.inr ⟨_,rfl⟩) rfl rfl rfl ?_ rfl
    exact le_ct (by simp[List.map_take,List.map_drop])
 ·have hke:k=l.length:=by omega
  have hat:=insN_at (s:=s) hk (fun j h hj=>ha j h hj) (fun h=>absurd h hlt)
  rw[dif_neg hlt]at hat
  rw[hat]
  subst hke
  clear ih
  repeat'(first|refine gc_ rfl ?_|(refine G1 ?_;refine G0 th rfl ?_)|(refine G9 mix rfl rfl ?_;refine G3 th rfl ?_)|(refine G5 mix rfl rfl ?_;refine GJ th rfl ?_)|refine G2 ?_|refine G4 ?_|refine G6 ?_ rfl rfl|((first|refine G8 rfl rfl ?_ ?_|refine GG rfl rfl rfl ?_ ?_|refine Q1 rfl ?_ ?_)<;>intro hb<;>(try simp only[hbL]at hb)<;>first|(exfalso;omega)|refine G0 th rfl ?_|refine G3 th rfl ?_|skip)|((first|refine s_sliceTo th rfl rfl rfl rfl rfl rfl rfl rfl (l.length) rfl (by simp) ?_|refine s_sliceFrom th rfl rfl rfl rfl rfl rfl rfl rfl rfl (l.length) rfl (by simp) ?_);refine G0 th rfl ?_)|(refine s_appendN th 200 rfl rfl rfl rfl rfl rfl rfl rfl rfl rfl rfl rfl rfl rfl (by constructor<;>simp<;>omega) ?_;refine G0 th rfl ?_)|(refine s_append th rfl rfl rfl rfl rfl rfl rfl rfl rfl rfl rfl rfl rfl rfl rfl (by constructor<;>simp<;>omega) ?_;refine G0 th rfl ?_)|(refine s_appendF th rfl rfl rfl rfl rfl rfl rfl rfl rfl rfl rfl rfl rfl rfl (by constructor<;>simp<;>omega) ?_;refine G0 th rfl ?_))
  all_goals first
   |(exfalso;simp only[List.length_map]at hb;omega)
   |(refine g_freeze 200 rfl rfl ?_
     refine QQ th Tryz.func129 (.inr ⟨_,rfl⟩) rfl rfl rfl ?_ rfl
     exact le_ct (by simp[List.take_of_length_le,List.drop_of_length_le]))
set_option maxHeartbeats 8000000 in
theorem putR_c(l:List ByteArray)(s:ByteArray)(hl:l.length≤500):Con Tryz.prog 100 [] [C1 (Q8 l),C1 (.str s)] (Rv (Q8 (putN l s))) []:=by
 rw[←putR_eq]
 refine J2 (c:=_) Tryz.func100 rfl rfl rfl (by decide) fun w M0 H Z=>?_
 repeat'(first|refine gc_ rfl ?_|(refine G1 ?_;refine G0 th rfl ?_)|(refine G9 mix rfl rfl ?_;refine G3 th rfl ?_)|(refine G5 mix rfl rfl ?_;refine GJ th rfl ?_)|refine G2 ?_|refine G4 ?_|refine G6 ?_ rfl rfl|((first|refine G8 rfl rfl ?_ ?_|refine GG rfl rfl rfl ?_ ?_|refine Q1 rfl ?_ ?_)<;>intro hb<;>(try simp only[hbL]at hb)<;>first|(exfalso;omega)|refine G0 th rfl ?_|refine G3 th rfl ?_|skip))
 refine g_freeze 8 rfl rfl ?_
 refine g_leT 5 (.v (C1 (Q8 [s]))) rfl (.v (.one (.c (.nn true 1 _)))) ?_
 refine J8 (fun k:Nat=>k≤l.length∧((l.take k).foldl (fun o x=>insN x o) [s]).length≤k+1)
  (fun k=>[(0,.v (C1 (Q8 l))),(5,.v (C1 (Q8 ((l.take k).foldl (fun o x=>insN x o) [s])))),(6,.v (C1 (.int .i64 (k:Int))))]) (fun _=>[]) (fun k=>l.length - k) 0 ⟨Nat.zero_le _,Nat.le_refl _⟩
  (fun a w h=>h.sub (by exact⟨⟨_,rfl,.refl _⟩,⟨_,rfl,.refl _⟩,⟨_,rfl,GY rfl⟩,trivial⟩) (by exact trivial) rfl rfl rfl) (fun k hk ih=>?_)
 obtain⟨hk,hkl⟩:=hk
 by_cases hlt:k < l.length
 ·have hx:(l.map fun s=>[CT.str s])[k]? =some [.str l[k]]:=by simp[hlt]
  have hs:(l.take (k+1)).foldl (fun o x=>insN x o) [s]=insN l[k] ((l.take k).foldl (fun o x=>insN x o) [s]):=by rw[List.take_succ_eq_append_getElem hlt,List.foldl_append];rfl
  have hih:=ih (k+1) ⟨hlt,by rw[hs];have:=insN_len l[k] ((l.take k).foldl (fun o x=>insN x o) [s]);omega⟩ (by omega)
  rw[hs]at hih
  have c1:=put1R_c ((l.take k).foldl (fun o x=>insN x o) [s]) l[k] (by omega)
  clear ih
  generalize (l.take k).foldl (fun o x=>insN x o) [s]=out at *
  repeat'(first|refine gc_ rfl ?_|(refine G1 ?_;refine G0 th rfl ?_)|(refine G9 mix rfl rfl ?_;refine G3 th rfl ?_)|(refine G5 mix rfl rfl ?_;refine GJ th rfl ?_)|refine G2 ?_|refine G4 ?_|refine G6 ?_ rfl rfl|((first|refine G8 rfl rfl ?_ ?_|refine GG rfl rfl rfl ?_ ?_|refine Q1 rfl ?_ ?_)<;>intro hb<;>(try simp only[hbL]at hb)<;>first|(exfalso;omega)|refine G0 th rfl ?_|refine G3 th rfl ?_|skip)|((first|refine K2 th rfl rfl rfl rfl rfl rfl rfl rfl rfl k _ rfl hx ?_|refine Q4 c1 [] rfl rfl rfl rfl rfl rfl rfl rfl rfl rfl ?_|refine QW rfl rfl rfl rfl rfl rfl (by omega) ?_);refine G0 th rfl ?_))
  all_goals first|(exfalso;simp only[List.length_map]at hb;omega)|exact QK (by exact⟨⟨_,rfl,.refl _⟩,⟨_,rfl,.refl _⟩,⟨_,rfl,GY (by omega)⟩,trivial⟩) (by exact trivial) rfl rfl rfl hih
 ·rw[List.take_of_length_le (by omega)]
  show Goes _ _ _ _ _ _ _
  repeat'(first|refine gc_ rfl ?_|(refine G1 ?_;refine G0 th rfl ?_)|(refine G9 mix rfl rfl ?_;refine G3 th rfl ?_)|(refine G5 mix rfl rfl ?_;refine GJ th rfl ?_)|refine G2 ?_|refine G4 ?_|refine G6 ?_ rfl rfl|((first|refine G8 rfl rfl ?_ ?_|refine GG rfl rfl rfl ?_ ?_|refine Q1 rfl ?_ ?_)<;>intro hb<;>(try simp only[hbL]at hb)<;>first|(exfalso;omega)|refine G0 th rfl ?_|refine G3 th rfl ?_|skip)|refine QQ th Tryz.func100 (.inr ⟨_,rfl⟩) rfl rfl rfl ?_ rfl)
  all_goals exact .refl _
end Go.Sy
